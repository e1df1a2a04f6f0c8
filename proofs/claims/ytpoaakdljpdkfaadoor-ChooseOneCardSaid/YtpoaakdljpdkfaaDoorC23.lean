/- THE WALKS OF state.Genesis, state.Right. -/
import Derived.Test.YtpoaakdljpdkfaaDoorC22
set_option linter.unusedSimpArgs false
set_option linter.unusedVariables false
namespace Go.Proofs.YtpoaakdljpdkfaaDoor
open Go.RowKit Go.Alm
@[go_sem] theorem bldStG (x1 : H32) (x6 : Wn) (x7 : Pr) (w : World) : (buildK 35 #[(1, .agg (encH x1)), (4, .int .u32 1), (6, .agg (encWn x6)), (7, .agg (encPr x7))]).run Tryd.prog w = .ok (.value (.agg (encSt ⟨zeroH, x1, zeroH, 0, 1, 0, x6, x7⟩))) w := by
  refine (bldSt #[(1, .agg (encH x1)), (4, .int .u32 ((1 : Nat) : Int)), (6, .agg (encWn x6)), (7, .agg (encPr x7))] ⟨⟨32, 32, rfl, size_encH _, by omega⟩, ⟨97, 1, rfl, rfl, by omega⟩, ⟨99, 6, rfl, size_encWn _, by omega⟩, ⟨105, 258, rfl, size_encPr _, by omega⟩, trivial⟩ w).trans ?_
  simp only [layAll, List.getElem?_toArray, List.getElem?_cons_zero, List.getElem?_cons_succ, Option.getD_some, Value.cells, spliceL, set_st_ledger, set_st_length, set_st_win, set_st_epochs]
  rfl
set_option maxRecDepth 20000 in
set_option maxHeartbeats 1000000 in
theorem SGenesis_any (h : H32) (w : World) :
    Calls Tryd.prog 18 #[.agg (encH h)] w fun e w' => e = .returned (.agg (encSt (genesis h))) ∧ Below w.heap.size w w' := by
  unfold genesis
  go_enter Tryd.func18, Tryd.ntmps18
  go_wp2_with fail
  generalize hW : World.alloc (World.alloc w _) _ = W
  have own : Owns w W [(w.heap.size, encH h), (w.heap.size + 1, encSt state0)] := hW ▸ own_two w _ _ _ _
  clear hW
  obtain ⟨-, lt, row, fr⟩ := own.at1
  refine wp_region_ext_tail 5 (by kernel_rfl) (by kernel_rfl) ?_
  simp only [List.take_succ_cons, List.take_zero, List.drop_succ_cons, List.drop_zero]
  iterate 1 (refine wpGrow_step (fun K hK => ?_); go_simp; refine hK _ ?_; clear hK K)
  refine wpGrow_step (fun K hK => ?_); go_simp
  refine ⟨_, fun _ => Calls.grow_of (WGenesis_any _) rfl, hK _ ?_⟩; clear hK K
  iterate 1 (refine wpGrow_step (fun K hK => ?_); go_simp; refine hK _ ?_; clear hK K)
  refine wpGrow_step (fun K hK => ?_); go_simp
  refine ⟨_, fun _ => Calls.grow_of (First_any _ _) rfl, hK _ ?_⟩; clear hK K
  iterate 1 (refine wpGrow_step (fun K hK => ?_); go_simp; refine hK _ ?_; clear hK K)
  refine wpGrow_nil ?_
  intro W1 hb1
  have own1 := own.call hb1
  clear own lt row fr
  obtain ⟨-, lt, row, fr⟩ := own1.at2
  go_wp2_with fail
  exact ret_cell rfl rfl rfl (rWSt _ _ _ (by rw [rowD_setCells_same, row, all_st])) ⟨rfl, below_setCells _ (by omega) _ _ _ _ own1.below⟩
set_option maxRecDepth 20000 in
set_option maxHeartbeats 4000000 in
theorem SRight_any (x : St) (w : World) (hx : x.Wf) :
    Calls Tryd.prog 14 #[.agg (encSt x)] w fun e w' => e = .returned (.bool (right x)) ∧ Below w.heap.size w w' := by
  have hs := hx.slot
  have hl := hx.length
  have hn := hx.next
  have hlast := hx.win.ring.last
  have hsub : subOf x.slot < 4294967296 := by unfold subOf; omega
  have hrt : ∀ b : Bool, (right x = b) → Value.bool (right x) = .bool b := fun b h => by rw [h]
  generalize hV : Value.bool (right x) = V
  have hVF : ∀ b : Bool, (right x = b) → V = .bool b := fun b h => by rw [← hV, h]
  clear hV hrt
  have hfin : (winRight x.win = true ∧ x.win.ring.last = subOf x.slot ∧ 0 < x.length ∧ x.length - 1 ≤ x.slot ∧ x.count ≤ epochOf x.slot ∧ x.count < x.length ∧ 0 < x.epochs.next.length ∧ x.epochs.next.length ≤ x.length ∧ x.epochs.next.length - 1 ≤ placeOf x.slot) → V = .bool true := fun h => hVF true ((right_iff x).2 h)
  have hbad : ¬ (winRight x.win = true ∧ x.win.ring.last = subOf x.slot ∧ 0 < x.length ∧ x.length - 1 ≤ x.slot ∧ x.count ≤ epochOf x.slot ∧ x.count < x.length ∧ 0 < x.epochs.next.length ∧ x.epochs.next.length ≤ x.length ∧ x.epochs.next.length - 1 ≤ placeOf x.slot) → V = .bool false := fun h => hVF false (by rw [← Bool.not_eq_true]; exact fun h' => h ((right_iff x).1 h'))
  clear hVF
  replace hfin : ∀ _ : Unit, _ := fun _ => hfin
  replace hbad : ∀ _ : Unit, _ := fun _ => hbad
  go_enter Tryd.func14, Tryd.ntmps14
  go_wp2_with fail
  generalize hW : World.alloc w _ = W
  have own : Owns w W [(w.heap.size, encSt x)] := hW ▸ own_one w _ _
  clear hW
  obtain ⟨-, lt, row, fr⟩ := own.at1
  go_wp2_with fail
  refine wp_region_mix [true, true, true, true, true, true, true, true, true, true, true, true, true, true, true, true, true, true, true, true, true, true, true, true, true, true, true, true, true, true, true, true, true, true, true, true, true, true, true, true, true, true, true, true, true, true, true, true, true, true, true, true, true, true, true, true, true, true, true, true] (fun W => W.rowD w.heap.size = encSt x ∧ w.heap.size < W.heap.size) (fun W W' h hb => ⟨(rowD_congr (hb.block _ h.2)).trans h.1, Nat.lt_of_lt_of_le h.2 hb.size⟩) ⟨row, lt⟩ (by kernel_rfl) (by kernel_rfl) ?_
  intro W1 hb1 hC1
  iterate 2 (refine wpMix_q rfl (fun K hK => ?_); refine ⟨_, (fun Wq hWq => by obtain ⟨g1, g2⟩ := hWq; go_simp; exact rfl), ?_⟩; go_simp; refine hK _ ?_; clear hK K)
  refine wpMix_q rfl (fun K hK => ?_); refine ⟨_, (fun Wq hWq => by go_simp; exact Calls.grow_of (WRight_any x.win _ hlast) rfl), ?_⟩; go_simp; refine hK _ ?_; clear hK K
  generalize hwr : winRight x.win = wr at hfin hbad ⊢
  by_cases h1 : wr = true
  rotate_left
  ·
    replace h1 : wr = false := by simpa using h1
    subst h1
    clear hfin hwr
    iterate 1 (refine wpMix_q rfl (fun K hK => ?_); refine ⟨_, (fun Wq hWq => by obtain ⟨g1, g2⟩ := hWq; go_simp; exact rfl), ?_⟩; go_simp; refine hK _ ?_; clear hK K)
    iterate 8 (refine wpMix_qn rfl (fun K hK => ?_); go_simp; refine hK _ ?_; clear hK K)
    iterate 2 (refine wpMix_q rfl (fun K hK => ?_); refine ⟨_, (fun Wq hWq => by obtain ⟨g1, g2⟩ := hWq; go_simp; exact rfl), ?_⟩; go_simp; refine hK _ ?_; clear hK K)
    iterate 3 (refine wpMix_qn rfl (fun K hK => ?_); go_simp; refine hK _ ?_; clear hK K)
    iterate 2 (refine wpMix_q rfl (fun K hK => ?_); refine ⟨_, (fun Wq hWq => by obtain ⟨g1, g2⟩ := hWq; go_simp; exact rfl), ?_⟩; go_simp; refine hK _ ?_; clear hK K)
    iterate 6 (refine wpMix_qn rfl (fun K hK => ?_); go_simp; refine hK _ ?_; clear hK K)
    iterate 2 (refine wpMix_q rfl (fun K hK => ?_); refine ⟨_, (fun Wq hWq => by obtain ⟨g1, g2⟩ := hWq; go_simp; exact rfl), ?_⟩; go_simp; refine hK _ ?_; clear hK K)
    iterate 6 (refine wpMix_qn rfl (fun K hK => ?_); go_simp; refine hK _ ?_; clear hK K)
    iterate 2 (refine wpMix_q rfl (fun K hK => ?_); refine ⟨_, (fun Wq hWq => by obtain ⟨g1, g2⟩ := hWq; go_simp; exact rfl), ?_⟩; go_simp; refine hK _ ?_; clear hK K)
    iterate 5 (refine wpMix_qn rfl (fun K hK => ?_); go_simp; refine hK _ ?_; clear hK K)
    iterate 2 (refine wpMix_q rfl (fun K hK => ?_); refine ⟨_, (fun Wq hWq => by obtain ⟨g1, g2⟩ := hWq; go_simp; exact rfl), ?_⟩; go_simp; refine hK _ ?_; clear hK K)
    iterate 2 (refine wpMix_qn rfl (fun K hK => ?_); go_simp; refine hK _ ?_; clear hK K)
    iterate 2 (refine wpMix_q rfl (fun K hK => ?_); refine ⟨_, (fun Wq hWq => by obtain ⟨g1, g2⟩ := hWq; go_simp; exact rfl), ?_⟩; go_simp; refine hK _ ?_; clear hK K)
    iterate 4 (refine wpMix_qn rfl (fun K hK => ?_); go_simp; refine hK _ ?_; clear hK K)
    iterate 2 (refine wpMix_q rfl (fun K hK => ?_); refine ⟨_, (fun Wq hWq => by obtain ⟨g1, g2⟩ := hWq; go_simp; exact rfl), ?_⟩; go_simp; refine hK _ ?_; clear hK K)
    iterate 6 (refine wpMix_qn rfl (fun K hK => ?_); go_simp; refine hK _ ?_; clear hK K)
    iterate 2 (refine wpMix_q rfl (fun K hK => ?_); refine ⟨_, (fun Wq hWq => by obtain ⟨g1, g2⟩ := hWq; go_simp; exact rfl), ?_⟩; go_simp; refine hK _ ?_; clear hK K)
    refine wpMix_nil (fun W2 hb2 => ?_)
    have own2 := (own.call hb1).call hb2
    clear own lt row fr
    go_wp2_with fail
    go_ret
    exact ⟨by first | rfl | (rw [hbad () (fun h => by obtain ⟨q1, q2, q3, q4, q5, q6, q7, q8, q9⟩ := h; first | (cases q1; done) | omega)]; rfl), own2.below⟩
  subst h1
  clear hwr
  iterate 1 (refine wpMix_q rfl (fun K hK => ?_); refine ⟨_, (fun Wq hWq => by obtain ⟨g1, g2⟩ := hWq; go_simp; exact rfl), ?_⟩; go_simp; refine hK _ ?_; clear hK K)
  iterate 6 (refine wpMix_qy rfl (fun K hK => ?_); refine ⟨_, (fun Wq hWq => by obtain ⟨g1, g2⟩ := hWq; go_simp; exact rfl), ?_⟩; go_simp; refine hK _ ?_; clear hK K)
  refine wpMix_qy rfl (fun K hK => ?_); refine ⟨_, (fun Wq hWq => by go_simp; exact Calls.grow_of (Sub_any _ _ hs) rfl), ?_⟩; go_simp; refine hK _ ?_; clear hK K
  by_cases h2 : x.win.ring.last = subOf x.slot
  rotate_left
  ·
    have h2' : ((x.win.ring.last : Int) == ((subOf x.slot : Nat) : Int)) = false := by simpa using fun h => h2 (by omega)
    iterate 1 (refine wpMix_qy rfl (fun K hK => ?_); refine ⟨_, (fun Wq hWq => by obtain ⟨g1, g2⟩ := hWq; go_simp; exact rfl), ?_⟩; go_simp; refine hK _ ?_; clear hK K)
    iterate 2 (refine wpMix_q rfl (fun K hK => ?_); refine ⟨_, (fun Wq hWq => by obtain ⟨g1, g2⟩ := hWq; go_simp; exact rfl), ?_⟩; go_simp; refine hK _ ?_; clear hK K)
    iterate 3 (refine wpMix_qn rfl (fun K hK => ?_); go_simp; refine hK _ ?_; clear hK K)
    iterate 2 (refine wpMix_q rfl (fun K hK => ?_); refine ⟨_, (fun Wq hWq => by obtain ⟨g1, g2⟩ := hWq; go_simp; exact rfl), ?_⟩; go_simp; refine hK _ ?_; clear hK K)
    iterate 6 (refine wpMix_qn rfl (fun K hK => ?_); go_simp; refine hK _ ?_; clear hK K)
    iterate 2 (refine wpMix_q rfl (fun K hK => ?_); refine ⟨_, (fun Wq hWq => by obtain ⟨g1, g2⟩ := hWq; go_simp; exact rfl), ?_⟩; go_simp; refine hK _ ?_; clear hK K)
    iterate 6 (refine wpMix_qn rfl (fun K hK => ?_); go_simp; refine hK _ ?_; clear hK K)
    iterate 2 (refine wpMix_q rfl (fun K hK => ?_); refine ⟨_, (fun Wq hWq => by obtain ⟨g1, g2⟩ := hWq; go_simp; exact rfl), ?_⟩; go_simp; refine hK _ ?_; clear hK K)
    iterate 5 (refine wpMix_qn rfl (fun K hK => ?_); go_simp; refine hK _ ?_; clear hK K)
    iterate 2 (refine wpMix_q rfl (fun K hK => ?_); refine ⟨_, (fun Wq hWq => by obtain ⟨g1, g2⟩ := hWq; go_simp; exact rfl), ?_⟩; go_simp; refine hK _ ?_; clear hK K)
    iterate 2 (refine wpMix_qn rfl (fun K hK => ?_); go_simp; refine hK _ ?_; clear hK K)
    iterate 2 (refine wpMix_q rfl (fun K hK => ?_); refine ⟨_, (fun Wq hWq => by obtain ⟨g1, g2⟩ := hWq; go_simp; exact rfl), ?_⟩; go_simp; refine hK _ ?_; clear hK K)
    iterate 4 (refine wpMix_qn rfl (fun K hK => ?_); go_simp; refine hK _ ?_; clear hK K)
    iterate 2 (refine wpMix_q rfl (fun K hK => ?_); refine ⟨_, (fun Wq hWq => by obtain ⟨g1, g2⟩ := hWq; go_simp; exact rfl), ?_⟩; go_simp; refine hK _ ?_; clear hK K)
    iterate 6 (refine wpMix_qn rfl (fun K hK => ?_); go_simp; refine hK _ ?_; clear hK K)
    iterate 2 (refine wpMix_q rfl (fun K hK => ?_); refine ⟨_, (fun Wq hWq => by obtain ⟨g1, g2⟩ := hWq; go_simp; exact rfl), ?_⟩; go_simp; refine hK _ ?_; clear hK K)
    refine wpMix_nil (fun W2 hb2 => ?_)
    have own2 := (own.call hb1).call hb2
    clear own lt row fr
    go_wp2_with fail
    go_ret
    exact ⟨by first | rfl | (rw [hbad () (fun h => by obtain ⟨q1, q2, q3, q4, q5, q6, q7, q8, q9⟩ := h; first | (cases q1; done) | omega)]; rfl), own2.below⟩
  have h2' : ((x.win.ring.last : Int) == ((subOf x.slot : Nat) : Int)) = true := by rw [h2]; simp
  replace h2 : ∀ _ : Unit, _ := fun _ => h2
  iterate 1 (refine wpMix_qy rfl (fun K hK => ?_); refine ⟨_, (fun Wq hWq => by obtain ⟨g1, g2⟩ := hWq; go_simp; exact rfl), ?_⟩; go_simp; refine hK _ ?_; clear hK K)
  iterate 2 (refine wpMix_q rfl (fun K hK => ?_); refine ⟨_, (fun Wq hWq => by obtain ⟨g1, g2⟩ := hWq; go_simp; exact rfl), ?_⟩; go_simp; refine hK _ ?_; clear hK K)
  iterate 2 (refine wpMix_qy rfl (fun K hK => ?_); refine ⟨_, (fun Wq hWq => by obtain ⟨g1, g2⟩ := hWq; go_simp; exact rfl), ?_⟩; go_simp; refine hK _ ?_; clear hK K)
  by_cases h3 : 0 < x.length
  rotate_left
  ·
    iterate 1 (refine wpMix_qy rfl (fun K hK => ?_); refine ⟨_, (fun Wq hWq => by obtain ⟨g1, g2⟩ := hWq; go_simp; exact rfl), ?_⟩; go_simp; refine hK _ ?_; clear hK K)
    iterate 2 (refine wpMix_q rfl (fun K hK => ?_); refine ⟨_, (fun Wq hWq => by obtain ⟨g1, g2⟩ := hWq; go_simp; exact rfl), ?_⟩; go_simp; refine hK _ ?_; clear hK K)
    iterate 6 (refine wpMix_qn rfl (fun K hK => ?_); go_simp; refine hK _ ?_; clear hK K)
    iterate 2 (refine wpMix_q rfl (fun K hK => ?_); refine ⟨_, (fun Wq hWq => by obtain ⟨g1, g2⟩ := hWq; go_simp; exact rfl), ?_⟩; go_simp; refine hK _ ?_; clear hK K)
    iterate 6 (refine wpMix_qn rfl (fun K hK => ?_); go_simp; refine hK _ ?_; clear hK K)
    iterate 2 (refine wpMix_q rfl (fun K hK => ?_); refine ⟨_, (fun Wq hWq => by obtain ⟨g1, g2⟩ := hWq; go_simp; exact rfl), ?_⟩; go_simp; refine hK _ ?_; clear hK K)
    iterate 5 (refine wpMix_qn rfl (fun K hK => ?_); go_simp; refine hK _ ?_; clear hK K)
    iterate 2 (refine wpMix_q rfl (fun K hK => ?_); refine ⟨_, (fun Wq hWq => by obtain ⟨g1, g2⟩ := hWq; go_simp; exact rfl), ?_⟩; go_simp; refine hK _ ?_; clear hK K)
    iterate 2 (refine wpMix_qn rfl (fun K hK => ?_); go_simp; refine hK _ ?_; clear hK K)
    iterate 2 (refine wpMix_q rfl (fun K hK => ?_); refine ⟨_, (fun Wq hWq => by obtain ⟨g1, g2⟩ := hWq; go_simp; exact rfl), ?_⟩; go_simp; refine hK _ ?_; clear hK K)
    iterate 4 (refine wpMix_qn rfl (fun K hK => ?_); go_simp; refine hK _ ?_; clear hK K)
    iterate 2 (refine wpMix_q rfl (fun K hK => ?_); refine ⟨_, (fun Wq hWq => by obtain ⟨g1, g2⟩ := hWq; go_simp; exact rfl), ?_⟩; go_simp; refine hK _ ?_; clear hK K)
    iterate 6 (refine wpMix_qn rfl (fun K hK => ?_); go_simp; refine hK _ ?_; clear hK K)
    iterate 2 (refine wpMix_q rfl (fun K hK => ?_); refine ⟨_, (fun Wq hWq => by obtain ⟨g1, g2⟩ := hWq; go_simp; exact rfl), ?_⟩; go_simp; refine hK _ ?_; clear hK K)
    refine wpMix_nil (fun W2 hb2 => ?_)
    have own2 := (own.call hb1).call hb2
    clear own lt row fr
    go_wp2_with fail
    go_ret
    exact ⟨by first | rfl | (rw [hbad () (fun h => by obtain ⟨q1, q2, q3, q4, q5, q6, q7, q8, q9⟩ := h; first | (cases q1; done) | omega)]; rfl), own2.below⟩
  iterate 1 (refine wpMix_qy rfl (fun K hK => ?_); refine ⟨_, (fun Wq hWq => by obtain ⟨g1, g2⟩ := hWq; go_simp; exact rfl), ?_⟩; go_simp; refine hK _ ?_; clear hK K)
  iterate 2 (refine wpMix_q rfl (fun K hK => ?_); refine ⟨_, (fun Wq hWq => by obtain ⟨g1, g2⟩ := hWq; go_simp; exact rfl), ?_⟩; go_simp; refine hK _ ?_; clear hK K)
  have hm : IntKind.u32.wrap ((x.length : Int) - 1) = (x.length : Int) - 1 := IntWalk.u32_in _ (by omega)
  iterate 5 (refine wpMix_qy rfl (fun K hK => ?_); refine ⟨_, (fun Wq hWq => by obtain ⟨g1, g2⟩ := hWq; go_simp; exact rfl), ?_⟩; go_simp; refine hK _ ?_; clear hK K)
  by_cases h4 : (x.length : Int) - 1 ≤ x.slot
  rotate_left
  ·
    have h4' : decide ((x.length : Int) - 1 ≤ (x.slot : Int)) = false := by simpa using h4
    iterate 1 (refine wpMix_qy rfl (fun K hK => ?_); refine ⟨_, (fun Wq hWq => by obtain ⟨g1, g2⟩ := hWq; go_simp; exact rfl), ?_⟩; go_simp; refine hK _ ?_; clear hK K)
    iterate 2 (refine wpMix_q rfl (fun K hK => ?_); refine ⟨_, (fun Wq hWq => by obtain ⟨g1, g2⟩ := hWq; go_simp; exact rfl), ?_⟩; go_simp; refine hK _ ?_; clear hK K)
    iterate 6 (refine wpMix_qn rfl (fun K hK => ?_); go_simp; refine hK _ ?_; clear hK K)
    iterate 2 (refine wpMix_q rfl (fun K hK => ?_); refine ⟨_, (fun Wq hWq => by obtain ⟨g1, g2⟩ := hWq; go_simp; exact rfl), ?_⟩; go_simp; refine hK _ ?_; clear hK K)
    iterate 5 (refine wpMix_qn rfl (fun K hK => ?_); go_simp; refine hK _ ?_; clear hK K)
    iterate 2 (refine wpMix_q rfl (fun K hK => ?_); refine ⟨_, (fun Wq hWq => by obtain ⟨g1, g2⟩ := hWq; go_simp; exact rfl), ?_⟩; go_simp; refine hK _ ?_; clear hK K)
    iterate 2 (refine wpMix_qn rfl (fun K hK => ?_); go_simp; refine hK _ ?_; clear hK K)
    iterate 2 (refine wpMix_q rfl (fun K hK => ?_); refine ⟨_, (fun Wq hWq => by obtain ⟨g1, g2⟩ := hWq; go_simp; exact rfl), ?_⟩; go_simp; refine hK _ ?_; clear hK K)
    iterate 4 (refine wpMix_qn rfl (fun K hK => ?_); go_simp; refine hK _ ?_; clear hK K)
    iterate 2 (refine wpMix_q rfl (fun K hK => ?_); refine ⟨_, (fun Wq hWq => by obtain ⟨g1, g2⟩ := hWq; go_simp; exact rfl), ?_⟩; go_simp; refine hK _ ?_; clear hK K)
    iterate 6 (refine wpMix_qn rfl (fun K hK => ?_); go_simp; refine hK _ ?_; clear hK K)
    iterate 2 (refine wpMix_q rfl (fun K hK => ?_); refine ⟨_, (fun Wq hWq => by obtain ⟨g1, g2⟩ := hWq; go_simp; exact rfl), ?_⟩; go_simp; refine hK _ ?_; clear hK K)
    refine wpMix_nil (fun W2 hb2 => ?_)
    have own2 := (own.call hb1).call hb2
    clear own lt row fr
    go_wp2_with fail
    go_ret
    exact ⟨by first | rfl | (rw [hbad () (fun h => by obtain ⟨q1, q2, q3, q4, q5, q6, q7, q8, q9⟩ := h; first | (cases q1; done) | omega)]; rfl), own2.below⟩
  iterate 1 (refine wpMix_qy rfl (fun K hK => ?_); refine ⟨_, (fun Wq hWq => by obtain ⟨g1, g2⟩ := hWq; go_simp; exact rfl), ?_⟩; go_simp; refine hK _ ?_; clear hK K)
  iterate 2 (refine wpMix_q rfl (fun K hK => ?_); refine ⟨_, (fun Wq hWq => by obtain ⟨g1, g2⟩ := hWq; go_simp; exact rfl), ?_⟩; go_simp; refine hK _ ?_; clear hK K)
  clear hm
  iterate 4 (refine wpMix_qy rfl (fun K hK => ?_); refine ⟨_, (fun Wq hWq => by obtain ⟨g1, g2⟩ := hWq; go_simp; exact rfl), ?_⟩; go_simp; refine hK _ ?_; clear hK K)
  refine wpMix_qy rfl (fun K hK => ?_); refine ⟨_, (fun Wq hWq => by go_simp; exact Calls.grow_of (Epoch_any _ _ hs) rfl), ?_⟩; go_simp; refine hK _ ?_; clear hK K
  by_cases h5 : x.count ≤ epochOf x.slot
  rotate_left
  ·
    iterate 1 (refine wpMix_qy rfl (fun K hK => ?_); refine ⟨_, (fun Wq hWq => by obtain ⟨g1, g2⟩ := hWq; go_simp; exact rfl), ?_⟩; go_simp; refine hK _ ?_; clear hK K)
    iterate 2 (refine wpMix_q rfl (fun K hK => ?_); refine ⟨_, (fun Wq hWq => by obtain ⟨g1, g2⟩ := hWq; go_simp; exact rfl), ?_⟩; go_simp; refine hK _ ?_; clear hK K)
    iterate 5 (refine wpMix_qn rfl (fun K hK => ?_); go_simp; refine hK _ ?_; clear hK K)
    iterate 2 (refine wpMix_q rfl (fun K hK => ?_); refine ⟨_, (fun Wq hWq => by obtain ⟨g1, g2⟩ := hWq; go_simp; exact rfl), ?_⟩; go_simp; refine hK _ ?_; clear hK K)
    iterate 2 (refine wpMix_qn rfl (fun K hK => ?_); go_simp; refine hK _ ?_; clear hK K)
    iterate 2 (refine wpMix_q rfl (fun K hK => ?_); refine ⟨_, (fun Wq hWq => by obtain ⟨g1, g2⟩ := hWq; go_simp; exact rfl), ?_⟩; go_simp; refine hK _ ?_; clear hK K)
    iterate 4 (refine wpMix_qn rfl (fun K hK => ?_); go_simp; refine hK _ ?_; clear hK K)
    iterate 2 (refine wpMix_q rfl (fun K hK => ?_); refine ⟨_, (fun Wq hWq => by obtain ⟨g1, g2⟩ := hWq; go_simp; exact rfl), ?_⟩; go_simp; refine hK _ ?_; clear hK K)
    iterate 6 (refine wpMix_qn rfl (fun K hK => ?_); go_simp; refine hK _ ?_; clear hK K)
    iterate 2 (refine wpMix_q rfl (fun K hK => ?_); refine ⟨_, (fun Wq hWq => by obtain ⟨g1, g2⟩ := hWq; go_simp; exact rfl), ?_⟩; go_simp; refine hK _ ?_; clear hK K)
    refine wpMix_nil (fun W2 hb2 => ?_)
    have own2 := (own.call hb1).call hb2
    clear own lt row fr
    go_wp2_with fail
    go_ret
    exact ⟨by first | rfl | (rw [hbad () (fun h => by obtain ⟨q1, q2, q3, q4, q5, q6, q7, q8, q9⟩ := h; first | (cases q1; done) | omega)]; rfl), own2.below⟩
  iterate 1 (refine wpMix_qy rfl (fun K hK => ?_); refine ⟨_, (fun Wq hWq => by obtain ⟨g1, g2⟩ := hWq; go_simp; exact rfl), ?_⟩; go_simp; refine hK _ ?_; clear hK K)
  iterate 2 (refine wpMix_q rfl (fun K hK => ?_); refine ⟨_, (fun Wq hWq => by obtain ⟨g1, g2⟩ := hWq; go_simp; exact rfl), ?_⟩; go_simp; refine hK _ ?_; clear hK K)
  iterate 4 (refine wpMix_qy rfl (fun K hK => ?_); refine ⟨_, (fun Wq hWq => by obtain ⟨g1, g2⟩ := hWq; go_simp; exact rfl), ?_⟩; go_simp; refine hK _ ?_; clear hK K)
  by_cases h6 : x.count < x.length
  rotate_left
  ·
    iterate 1 (refine wpMix_qy rfl (fun K hK => ?_); refine ⟨_, (fun Wq hWq => by obtain ⟨g1, g2⟩ := hWq; go_simp; exact rfl), ?_⟩; go_simp; refine hK _ ?_; clear hK K)
    iterate 2 (refine wpMix_q rfl (fun K hK => ?_); refine ⟨_, (fun Wq hWq => by obtain ⟨g1, g2⟩ := hWq; go_simp; exact rfl), ?_⟩; go_simp; refine hK _ ?_; clear hK K)
    iterate 2 (refine wpMix_qn rfl (fun K hK => ?_); go_simp; refine hK _ ?_; clear hK K)
    iterate 2 (refine wpMix_q rfl (fun K hK => ?_); refine ⟨_, (fun Wq hWq => by obtain ⟨g1, g2⟩ := hWq; go_simp; exact rfl), ?_⟩; go_simp; refine hK _ ?_; clear hK K)
    iterate 4 (refine wpMix_qn rfl (fun K hK => ?_); go_simp; refine hK _ ?_; clear hK K)
    iterate 2 (refine wpMix_q rfl (fun K hK => ?_); refine ⟨_, (fun Wq hWq => by obtain ⟨g1, g2⟩ := hWq; go_simp; exact rfl), ?_⟩; go_simp; refine hK _ ?_; clear hK K)
    iterate 6 (refine wpMix_qn rfl (fun K hK => ?_); go_simp; refine hK _ ?_; clear hK K)
    iterate 2 (refine wpMix_q rfl (fun K hK => ?_); refine ⟨_, (fun Wq hWq => by obtain ⟨g1, g2⟩ := hWq; go_simp; exact rfl), ?_⟩; go_simp; refine hK _ ?_; clear hK K)
    refine wpMix_nil (fun W2 hb2 => ?_)
    have own2 := (own.call hb1).call hb2
    clear own lt row fr
    go_wp2_with fail
    go_ret
    exact ⟨by first | rfl | (rw [hbad () (fun h => by obtain ⟨q1, q2, q3, q4, q5, q6, q7, q8, q9⟩ := h; first | (cases q1; done) | omega)]; rfl), own2.below⟩
  iterate 1 (refine wpMix_qy rfl (fun K hK => ?_); refine ⟨_, (fun Wq hWq => by obtain ⟨g1, g2⟩ := hWq; go_simp; exact rfl), ?_⟩; go_simp; refine hK _ ?_; clear hK K)
  iterate 2 (refine wpMix_q rfl (fun K hK => ?_); refine ⟨_, (fun Wq hWq => by obtain ⟨g1, g2⟩ := hWq; go_simp; exact rfl), ?_⟩; go_simp; refine hK _ ?_; clear hK K)
  iterate 1 (refine wpMix_qy rfl (fun K hK => ?_); refine ⟨_, (fun Wq hWq => by obtain ⟨g1, g2⟩ := hWq; go_simp; exact rfl), ?_⟩; go_simp; refine hK _ ?_; clear hK K)
  by_cases h7 : 0 < x.epochs.next.length
  rotate_left
  ·
    iterate 1 (refine wpMix_qy rfl (fun K hK => ?_); refine ⟨_, (fun Wq hWq => by obtain ⟨g1, g2⟩ := hWq; go_simp; exact rfl), ?_⟩; go_simp; refine hK _ ?_; clear hK K)
    iterate 2 (refine wpMix_q rfl (fun K hK => ?_); refine ⟨_, (fun Wq hWq => by obtain ⟨g1, g2⟩ := hWq; go_simp; exact rfl), ?_⟩; go_simp; refine hK _ ?_; clear hK K)
    iterate 4 (refine wpMix_qn rfl (fun K hK => ?_); go_simp; refine hK _ ?_; clear hK K)
    iterate 2 (refine wpMix_q rfl (fun K hK => ?_); refine ⟨_, (fun Wq hWq => by obtain ⟨g1, g2⟩ := hWq; go_simp; exact rfl), ?_⟩; go_simp; refine hK _ ?_; clear hK K)
    iterate 6 (refine wpMix_qn rfl (fun K hK => ?_); go_simp; refine hK _ ?_; clear hK K)
    iterate 2 (refine wpMix_q rfl (fun K hK => ?_); refine ⟨_, (fun Wq hWq => by obtain ⟨g1, g2⟩ := hWq; go_simp; exact rfl), ?_⟩; go_simp; refine hK _ ?_; clear hK K)
    refine wpMix_nil (fun W2 hb2 => ?_)
    have own2 := (own.call hb1).call hb2
    clear own lt row fr
    go_wp2_with fail
    go_ret
    exact ⟨by first | rfl | (rw [hbad () (fun h => by obtain ⟨q1, q2, q3, q4, q5, q6, q7, q8, q9⟩ := h; first | (cases q1; done) | omega)]; rfl), own2.below⟩
  iterate 1 (refine wpMix_qy rfl (fun K hK => ?_); refine ⟨_, (fun Wq hWq => by obtain ⟨g1, g2⟩ := hWq; go_simp; exact rfl), ?_⟩; go_simp; refine hK _ ?_; clear hK K)
  iterate 2 (refine wpMix_q rfl (fun K hK => ?_); refine ⟨_, (fun Wq hWq => by obtain ⟨g1, g2⟩ := hWq; go_simp; exact rfl), ?_⟩; go_simp; refine hK _ ?_; clear hK K)
  iterate 3 (refine wpMix_qy rfl (fun K hK => ?_); refine ⟨_, (fun Wq hWq => by obtain ⟨g1, g2⟩ := hWq; go_simp; exact rfl), ?_⟩; go_simp; refine hK _ ?_; clear hK K)
  by_cases h8 : x.epochs.next.length ≤ x.length
  rotate_left
  ·
    iterate 1 (refine wpMix_qy rfl (fun K hK => ?_); refine ⟨_, (fun Wq hWq => by obtain ⟨g1, g2⟩ := hWq; go_simp; exact rfl), ?_⟩; go_simp; refine hK _ ?_; clear hK K)
    iterate 2 (refine wpMix_q rfl (fun K hK => ?_); refine ⟨_, (fun Wq hWq => by obtain ⟨g1, g2⟩ := hWq; go_simp; exact rfl), ?_⟩; go_simp; refine hK _ ?_; clear hK K)
    iterate 6 (refine wpMix_qn rfl (fun K hK => ?_); go_simp; refine hK _ ?_; clear hK K)
    iterate 2 (refine wpMix_q rfl (fun K hK => ?_); refine ⟨_, (fun Wq hWq => by obtain ⟨g1, g2⟩ := hWq; go_simp; exact rfl), ?_⟩; go_simp; refine hK _ ?_; clear hK K)
    refine wpMix_nil (fun W2 hb2 => ?_)
    have own2 := (own.call hb1).call hb2
    clear own lt row fr
    go_wp2_with fail
    go_ret
    exact ⟨by first | rfl | (rw [hbad () (fun h => by obtain ⟨q1, q2, q3, q4, q5, q6, q7, q8, q9⟩ := h; first | (cases q1; done) | omega)]; rfl), own2.below⟩
  iterate 1 (refine wpMix_qy rfl (fun K hK => ?_); refine ⟨_, (fun Wq hWq => by obtain ⟨g1, g2⟩ := hWq; go_simp; exact rfl), ?_⟩; go_simp; refine hK _ ?_; clear hK K)
  iterate 2 (refine wpMix_q rfl (fun K hK => ?_); refine ⟨_, (fun Wq hWq => by obtain ⟨g1, g2⟩ := hWq; go_simp; exact rfl), ?_⟩; go_simp; refine hK _ ?_; clear hK K)
  have hm : IntKind.u32.wrap ((x.epochs.next.length : Int) - 1) = (x.epochs.next.length : Int) - 1 := IntWalk.u32_in _ (by omega)
  iterate 4 (refine wpMix_qy rfl (fun K hK => ?_); refine ⟨_, (fun Wq hWq => by obtain ⟨g1, g2⟩ := hWq; go_simp; exact rfl), ?_⟩; go_simp; refine hK _ ?_; clear hK K)
  refine wpMix_qy rfl (fun K hK => ?_); refine ⟨_, (fun Wq hWq => by go_simp; exact Calls.grow_of (Place_any _ _ hs) rfl), ?_⟩; go_simp; refine hK _ ?_; clear hK K
  by_cases h9 : (x.epochs.next.length : Int) - 1 ≤ (placeOf x.slot : Nat)
  rotate_left
  ·
    have h9' : decide ((x.epochs.next.length : Int) - 1 ≤ ((placeOf x.slot : Nat) : Int)) = false := by simpa using h9
    iterate 1 (refine wpMix_qy rfl (fun K hK => ?_); refine ⟨_, (fun Wq hWq => by obtain ⟨g1, g2⟩ := hWq; go_simp; exact rfl), ?_⟩; go_simp; refine hK _ ?_; clear hK K)
    iterate 2 (refine wpMix_q rfl (fun K hK => ?_); refine ⟨_, (fun Wq hWq => by obtain ⟨g1, g2⟩ := hWq; go_simp; exact rfl), ?_⟩; go_simp; refine hK _ ?_; clear hK K)
    refine wpMix_nil (fun W2 hb2 => ?_)
    have own2 := (own.call hb1).call hb2
    clear own lt row fr
    go_wp2_with fail
    go_ret
    exact ⟨by first | rfl | (rw [hbad () (fun h => by obtain ⟨q1, q2, q3, q4, q5, q6, q7, q8, q9⟩ := h; first | (cases q1; done) | omega)]; rfl), own2.below⟩
  iterate 1 (refine wpMix_qy rfl (fun K hK => ?_); refine ⟨_, (fun Wq hWq => by obtain ⟨g1, g2⟩ := hWq; go_simp; exact rfl), ?_⟩; go_simp; refine hK _ ?_; clear hK K)
  iterate 2 (refine wpMix_q rfl (fun K hK => ?_); refine ⟨_, (fun Wq hWq => by obtain ⟨g1, g2⟩ := hWq; go_simp; exact rfl), ?_⟩; go_simp; refine hK _ ?_; clear hK K)
  refine wpMix_nil (fun W2 hb2 => ?_)
  have own2 := (own.call hb1).call hb2
  clear own lt row fr
  replace h2 := h2 ()
  go_wp2_with fail
  go_ret
  exact ⟨by rw [hfin () ⟨by first | rfl | trivial, h2, h3, by omega, h5, h6, h7, h8, by omega⟩]; rfl, own2.below⟩
end Go.Proofs.YtpoaakdljpdkfaaDoor

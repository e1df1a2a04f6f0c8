/- WHAT THE CALLS OF GrowRight's awake COME TO, PURELY. -/
import Derived.Test.YtpoaakdljpdkfaaDoorSpec
import Derived.KernelRfl
import Derived.Test.YtpoaakdljpdkfaaDoorC27
set_option linter.unusedVariables false
namespace Go.Alm
/-- a digest whose first byte is n -/
def hOne (n : Nat) (h : n < 256) : H32 := ⟨n :: List.replicate 31 0, by simp, by
  intro x hx
  rcases List.mem_cons.1 hx with h1 | h1
  · omega
  · rw [List.eq_of_mem_replicate h1]; omega⟩
def h1 : H32 := hOne 1 (by omega)
def h7 : H32 := hOne 7 (by omega)
def aw10 : List Bk := [⟨3, zeroH, zeroH⟩, ⟨30, zeroH, zeroH⟩, ⟨50, zeroH, h7⟩]
theorem chainFrom_wf : ∀ (l : List Bk) (s : St) (k : Nat), s.Wf → (∀ b ∈ l, b.slot < 4294967296) → (chainFrom s l k).1.Wf
  | [], s, k, h, _ => h
  | b :: l, s, k, h, hb => by
    unfold chainFrom
    simp only
    split
    · exact h
    · exact chainFrom_wf l _ _ (child_wf h (hb b (by simp))) (fun c hc => hb c (by simp [hc]))
theorem aw10_2 : (chain h1 aw10).2 = (3, 0) := by kernel_rfl
theorem aw10_slot : (chain h1 aw10).1.slot = 50 := by kernel_rfl
theorem aw10_length : (chain h1 aw10).1.length = 4 := by kernel_rfl
theorem aw10_count : (chain h1 aw10).1.count = 2 := by kernel_rfl
theorem aw10_draw : (chain h1 aw10).1.draw = h7 := by kernel_rfl
theorem aw10_right : right (chain h1 aw10).1 = true := by kernel_rfl
theorem aw10_bad : child (chain h1 aw10).1 ⟨50, zeroH, zeroH⟩ = (state0, 6) := by unfold child; rw [if_pos (by rw [aw10_slot]; exact Nat.le_refl _)]
theorem aw10_child : (child (genesis h1) ⟨3, zeroH, zeroH⟩).2 = 0 := by kernel_rfl
theorem aw10_prev : (child (genesis h1) ⟨3, zeroH, zeroH⟩).1.prev = hashOf (genesis h1) := by kernel_rfl
end Go.Alm

/- THE WALK OF GrowRight's awake. -/
set_option linter.unusedSimpArgs false
set_option linter.unusedVariables false
namespace Go.Proofs.YtpoaakdljpdkfaaDoor
open Go.RowKit Go.Alm
@[go_sem ↓] theorem exBH (ρ : Operand → Value) (dst : Option Tmp) (ps : Array (Nat × Operand)) (ty : TypeId) (pos : String) (after : Array Edge) (guard : Option (Nat × Bool)) : execOp ρ { dst, op := .build 23 ps, type := ty, pos, after, guard } = buildK 23 (ps.map fun (i, x) => (i, ρ x)) := rfl
@[go_sem] theorem bldH1x (w : World) : (buildK 23 #[(0, .int .u8 1)]).run Tryd.prog w = .ok (.value (.agg (encH h1))) w := by kernel_rfl
@[go_sem] theorem bldH7x (w : World) : (buildK 23 #[(0, .int .u8 7)]).run Tryd.prog w = .ok (.value (.agg (encH h7))) w := by kernel_rfl
theorem bldBkS (n : Nat) (w : World) : (buildK 37 #[(0, .int .u32 (n : Int))]).run Tryd.prog w = .ok (.value (.agg (encBk ⟨n, zeroH, zeroH⟩))) w := by
  refine (bldBk #[(0, .int .u32 (n : Int))] ⟨⟨0, 1, rfl, rfl, by omega⟩, trivial⟩ w).trans ?_
  simp only [layAll, List.getElem?_toArray, List.getElem?_cons_zero, List.getElem?_cons_succ, Option.getD_some, Value.cells, spliceL, set_bk_slot]
  rfl
theorem bldBkD (n : Nat) (d : H32) (w : World) : (buildK 37 #[(0, .int .u32 (n : Int)), (2, .agg (encH d))]).run Tryd.prog w = .ok (.value (.agg (encBk ⟨n, zeroH, d⟩))) w := by
  refine (bldBk #[(0, .int .u32 (n : Int)), (2, .agg (encH d))] ⟨⟨0, 1, rfl, rfl, by omega⟩, ⟨33, 32, rfl, size_encH _, by omega⟩, trivial⟩ w).trans ?_
  simp only [layAll, List.getElem?_toArray, List.getElem?_cons_zero, List.getElem?_cons_succ, Option.getD_some, Value.cells, spliceL, set_bk_slot, set_bk_draw]
  rfl
@[go_sem] theorem bldBk3 (w : World) : (buildK 37 #[(0, .int .u32 3)]).run Tryd.prog w = .ok (.value (.agg (encBk ⟨3, zeroH, zeroH⟩))) w := bldBkS 3 w
@[go_sem] theorem bldBk30 (w : World) : (buildK 37 #[(0, .int .u32 30)]).run Tryd.prog w = .ok (.value (.agg (encBk ⟨30, zeroH, zeroH⟩))) w := bldBkS 30 w
@[go_sem] theorem bldBk50 (w : World) : (buildK 37 #[(0, .int .u32 50)]).run Tryd.prog w = .ok (.value (.agg (encBk ⟨50, zeroH, zeroH⟩))) w := bldBkS 50 w
@[go_sem] theorem bldBk50d (d : H32) (w : World) : (buildK 37 #[(0, .int .u32 50), (2, .agg (encH d))]).run Tryd.prog w = .ok (.value (.agg (encBk ⟨50, zeroH, d⟩))) w := bldBkD 50 d w
theorem size_encBks (l : List Bk) : (encBks l).size = l.length * 65 := by
  unfold encBks
  rw [List.size_toArray, List.length_flatMap]
  have : l.map (fun a => (encBk a).toList.length) = l.map (fun _ => 65) := List.map_congr_left fun a _ => by rw [Array.length_toList, size_encBk]
  rw [this]; simp only [List.map_const', List.sum_replicate_nat]
theorem whole_bks (l : List Bk) : (encBks l).extract 0 (0 + l.length * 65) = encBks l := by rw [Nat.zero_add, ← size_encBks]; exact Array.extract_size
theorem size_encSts (l : List St) : (encSts l).size = l.length * 363 := by
  unfold encSts
  rw [List.size_toArray, List.length_flatMap]
  have : l.map (fun a => (encSt a).toList.length) = l.map (fun _ => 363) := List.map_congr_left fun a _ => by rw [Array.length_toList, size_encSt]
  rw [this]; simp only [List.map_const', List.sum_replicate_nat]
theorem whole_sts (l : List St) : (encSts l).extract 0 (0 + l.length * 363) = encSts l := by rw [Nat.zero_add, ← size_encSts]; exact Array.extract_size
set_option maxRecDepth 20000 in
set_option maxHeartbeats 4000000 in
theorem awake10_any (w : World) (hk : Keyed w) : Calls Tryd.prog 13 #[] w fun e w' => e = .returned (.bool true) ∧ Below w.heap.size w w' := by
  go_enter Tryd.func13, Tryd.ntmps13
  go_wp2_with fail
  have own := own_one w (encBks aw10) 37
  refine (Chain_any h1 aw10 (some ⟨w.heap.size, 0, none⟩) 3 _ (hk.below own.below) (by intro b hb; simp only [aw10, List.mem_cons, List.not_mem_nil, or_false] at hb; rcases hb with rfl | rfl | rfl <;> decide) (by decide) (.inr ⟨w.heap.size, 0, rfl, own.at1.2.1, by rw [own.at1.2.2.1]; exact whole_bks aw10⟩)).mono ?_
  rintro e w1 ⟨rfl, hb1⟩
  have own1 := own.call hb1
  clear own
  have hswf := chainFrom_wf aw10 (genesis h1) 0 (genesis_wf h1) (by intro b hb; simp only [aw10, List.mem_cons, List.not_mem_nil, or_false] at hb; rcases hb with rfl | rfl | rfl <;> decide)
  change (chain h1 aw10).1.Wf at hswf
  have e2 := aw10_2
  have e3 := aw10_slot
  have e4 := aw10_length
  have e5 := aw10_count
  have e6 := aw10_draw
  have e7 := aw10_right
  have e8 := aw10_bad
  generalize chain h1 aw10 = c at e2 e3 e4 e5 e6 e7 e8 hswf ⊢
  obtain ⟨s, c23⟩ := c
  simp only at e2 e3 e4 e5 e6 e7 e8 hswf
  subst e2
  have s3 : ((s.slot : Int) == 50) = true := by rw [e3]; rfl
  have s4 : ((s.length : Int) == 4) = true := by rw [e4]; rfl
  have s5 : ((s.count : Int) == 2) = true := by rw [e5]; rfl
  have s6 : (encSt s)[64]? = some (.int .u8 7) := by
    have := ext_get (st_draw s) 0 (by omega)
    rw [Nat.add_zero] at this
    rw [this, e6]
    exact (show (encH h7)[0]? = some (.int .u8 7) from rfl)
  have s6' : ∀ h : 64 < (encSt s).size, (encSt s)[64]'h = .int .u8 7 := fun h => Option.some.inj ((Array.getElem?_eq_getElem h).symm.trans s6)
  clear e3 e4 e5 e6
  replace e7 : ∀ _ : Unit, right s = true := fun _ => e7
  replace e8 : ∀ _ : Unit, child s ⟨50, zeroH, zeroH⟩ = (state0, 6) := fun _ => e8
  go_wp2_with fail
  have own2 := own1.alloc (encSt s) 35
  generalize World.alloc w1 _ = w2 at own2 ⊢
  generalize w1.heap.size = c1 at own2 ⊢
  clear own1 hb1
  refine (Child_any s ⟨50, zeroH, zeroH⟩ _ (hk.below own2.below) hswf (by decide)).mono ?_
  rw [e8 ()]
  rintro e w3 ⟨rfl, hb3⟩
  have own3 := own2.call hb3
  clear own2 e8
  go_wp2_with fail
  have own4 := own3.alloc (encSt state0) 35
  generalize World.alloc w3 _ = w4 at own4 ⊢
  generalize w3.heap.size = c4 at own4 ⊢
  clear own3 hb3
  refine (SGenesis_any h1 _).mono ?_
  rintro e w5 ⟨rfl, hb5⟩
  have own5 := own4.call hb5
  clear own4
  have e8 := aw10_child
  have e9 := aw10_prev
  have hgwf := genesis_wf h1
  have hcwf := child_wf (b := ⟨3, zeroH, zeroH⟩) hgwf (by decide)
  have hC := fun w hk => Child_any (genesis h1) ⟨3, zeroH, zeroH⟩ w hk hgwf (by decide)
  have hH := fun w hk => Hash_any (genesis h1) w hk hgwf
  generalize genesis h1 = g at e8 e9 hgwf hcwf hC hH ⊢
  go_wp2_with fail
  have own6 := own5.alloc (encSt g) 35
  refine (hC _ (hk.below own6.below)).mono ?_
  generalize World.alloc w5 _ = w6 at own6 ⊢
  generalize w5.heap.size = c6 at own6 ⊢
  clear own5 hb5
  rintro e w7 ⟨rfl, hb7⟩
  have own7 := own6.call hb7
  clear own6 hC
  generalize child g ⟨3, zeroH, zeroH⟩ = c at e8 e9 hcwf ⊢
  obtain ⟨c, ce⟩ := c
  simp only at e8 e9 hcwf ⊢
  subst e8
  simp only [List.cons_append, List.nil_append] at own7
  go_wp2_with fail
  have own8 := own7.alloc (encSt c) 35
  generalize World.alloc w7 _ = w8 at own8 ⊢
  generalize w7.heap.size = c7 at own8 ⊢
  clear own7 hb7
  simp only [List.cons_append, List.nil_append] at own8
  obtain ⟨-, lt1, row1, -⟩ := own8.at2
  obtain ⟨-, lt2, row2, -⟩ := own8.at4
  obtain ⟨-, lt3, row3, -⟩ := own8.blocks (c7, encSt c) (by simp)
  simp only at lt3 row3
  have hk8 := hk.below own8.below
  have hprev : ∀ _ : Unit, c.prev = hashOf g := fun _ => e9
  have hdec : decide (c.prev = hashOf g) = true := by simpa using e9
  clear e9
  refine wp_region_mix [true, true, true, true, true, true, true, true, true, true, true, true, true, true, true, true, true, true, true, true, true, true, true, true, true, true, true, true, true, true, true, true, true, true, true, true, true, true, true, true, true, true, true, true, true, true, true] (fun W => W.rowD c1 = encSt s ∧ c1 < W.heap.size ∧ W.rowD c6 = encSt g ∧ c6 < W.heap.size ∧ W.rowD c7 = encSt c ∧ c7 < W.heap.size ∧ Keyed W)
    (fun W W' h hb => by obtain ⟨q1, q2, q3, q4, q5, q6, q7⟩ := h; exact ⟨(rowD_congr (hb.block _ q2)).trans q1, Nat.lt_of_lt_of_le q2 hb.size, (rowD_congr (hb.block _ q4)).trans q3, Nat.lt_of_lt_of_le q4 hb.size, (rowD_congr (hb.block _ q6)).trans q5, Nat.lt_of_lt_of_le q6 hb.size, q7.below hb⟩)
    ⟨row1, lt1, row2, lt2, row3, lt3, hk8⟩ (by kernel_rfl) (by kernel_rfl) ?_
  intro W1 hb1 hC1
  clear lt1 row1 lt2 row2 lt3 row3
  iterate 3 (refine wpMix_q rfl (fun K hK => ?_); refine ⟨_, (fun Wq hWq => by obtain ⟨g1, l1, g2, l2, g3, l3, hkq⟩ := hWq; go_simp; exact rfl), ?_⟩; go_simp; refine hK _ ?_; clear hK K)
  iterate 2 (refine wpMix_qy rfl (fun K hK => ?_); refine ⟨_, (fun Wq hWq => by obtain ⟨g1, l1, g2, l2, g3, l3, hkq⟩ := hWq; go_simp; exact rfl), ?_⟩; go_simp; refine hK _ ?_; clear hK K)
  iterate 2 (refine wpMix_q rfl (fun K hK => ?_); refine ⟨_, (fun Wq hWq => by obtain ⟨g1, l1, g2, l2, g3, l3, hkq⟩ := hWq; go_simp; exact rfl), ?_⟩; go_simp; refine hK _ ?_; clear hK K)
  iterate 3 (refine wpMix_qy rfl (fun K hK => ?_); refine ⟨_, (fun Wq hWq => by obtain ⟨g1, l1, g2, l2, g3, l3, hkq⟩ := hWq; go_simp; exact rfl), ?_⟩; go_simp; refine hK _ ?_; clear hK K)
  iterate 2 (refine wpMix_q rfl (fun K hK => ?_); refine ⟨_, (fun Wq hWq => by obtain ⟨g1, l1, g2, l2, g3, l3, hkq⟩ := hWq; go_simp; exact rfl), ?_⟩; go_simp; refine hK _ ?_; clear hK K)
  iterate 3 (refine wpMix_qy rfl (fun K hK => ?_); refine ⟨_, (fun Wq hWq => by obtain ⟨g1, l1, g2, l2, g3, l3, hkq⟩ := hWq; go_simp; exact rfl), ?_⟩; go_simp; refine hK _ ?_; clear hK K)
  iterate 2 (refine wpMix_q rfl (fun K hK => ?_); refine ⟨_, (fun Wq hWq => by obtain ⟨g1, l1, g2, l2, g3, l3, hkq⟩ := hWq; go_simp; exact rfl), ?_⟩; go_simp; refine hK _ ?_; clear hK K)
  iterate 3 (refine wpMix_qy rfl (fun K hK => ?_); refine ⟨_, (fun Wq hWq => by obtain ⟨g1, l1, g2, l2, g3, l3, hkq⟩ := hWq; go_simp; exact rfl), ?_⟩; go_simp; refine hK _ ?_; clear hK K)
  iterate 2 (refine wpMix_q rfl (fun K hK => ?_); refine ⟨_, (fun Wq hWq => by obtain ⟨g1, l1, g2, l2, g3, l3, hkq⟩ := hWq; go_simp; exact rfl), ?_⟩; go_simp; refine hK _ ?_; clear hK K)
  iterate 4 (refine wpMix_qy rfl (fun K hK => ?_); refine ⟨_, (fun Wq hWq => by obtain ⟨g1, l1, g2, l2, g3, l3, hkq⟩ := hWq; go_simp; exact rfl), ?_⟩; go_simp; refine hK _ ?_; clear hK K)
  iterate 2 (refine wpMix_q rfl (fun K hK => ?_); refine ⟨_, (fun Wq hWq => by obtain ⟨g1, l1, g2, l2, g3, l3, hkq⟩ := hWq; go_simp; exact rfl), ?_⟩; go_simp; refine hK _ ?_; clear hK K)
  iterate 2 (refine wpMix_qy rfl (fun K hK => ?_); refine ⟨_, (fun Wq hWq => by obtain ⟨g1, l1, g2, l2, g3, l3, hkq⟩ := hWq; go_simp; exact rfl), ?_⟩; go_simp; refine hK _ ?_; clear hK K)
  iterate 2 (refine wpMix_q rfl (fun K hK => ?_); refine ⟨_, (fun Wq hWq => by obtain ⟨g1, l1, g2, l2, g3, l3, hkq⟩ := hWq; go_simp; exact rfl), ?_⟩; go_simp; refine hK _ ?_; clear hK K)
  iterate 2 (refine wpMix_qy rfl (fun K hK => ?_); refine ⟨_, (fun Wq hWq => by obtain ⟨g1, l1, g2, l2, g3, l3, hkq⟩ := hWq; go_simp; exact rfl), ?_⟩; go_simp; refine hK _ ?_; clear hK K)
  iterate 2 (refine wpMix_q rfl (fun K hK => ?_); refine ⟨_, (fun Wq hWq => by obtain ⟨g1, l1, g2, l2, g3, l3, hkq⟩ := hWq; go_simp; exact rfl), ?_⟩; go_simp; refine hK _ ?_; clear hK K)
  iterate 3 (refine wpMix_qy rfl (fun K hK => ?_); refine ⟨_, (fun Wq hWq => by obtain ⟨g1, l1, g2, l2, g3, l3, hkq⟩ := hWq; go_simp; exact rfl), ?_⟩; go_simp; refine hK _ ?_; clear hK K)
  refine wpMix_qy rfl (fun K hK => ?_); refine ⟨_, (fun Wq hWq => by obtain ⟨g1, l1, g2, l2, g3, l3, hkq⟩ := hWq; go_simp; exact Calls.grow_of (hH Wq hkq) rfl), ?_⟩; go_simp; refine hK _ ?_; clear hK K
  iterate 1 (refine wpMix_qy rfl (fun K hK => ?_); refine ⟨_, (fun Wq hWq => by obtain ⟨g1, l1, g2, l2, g3, l3, hkq⟩ := hWq; go_simp; exact rfl), ?_⟩; go_simp; refine hK _ ?_; clear hK K)
  iterate 2 (refine wpMix_q rfl (fun K hK => ?_); refine ⟨_, (fun Wq hWq => by obtain ⟨g1, l1, g2, l2, g3, l3, hkq⟩ := hWq; go_simp; exact rfl), ?_⟩; go_simp; refine hK _ ?_; clear hK K)
  iterate 1 (refine wpMix_qy rfl (fun K hK => ?_); refine ⟨_, (fun Wq hWq => by obtain ⟨g1, l1, g2, l2, g3, l3, hkq⟩ := hWq; go_simp; exact rfl), ?_⟩; go_simp; refine hK _ ?_; clear hK K)
  have e7s := e7 ()
  refine wpMix_qy rfl (fun K hK => ?_); refine ⟨_, (fun Wq hWq => by obtain ⟨g1, l1, g2, l2, g3, l3, hkq⟩ := hWq; go_simp; exact Calls.grow_of (SRight_any s Wq hswf) rfl), ?_⟩; go_simp; refine hK _ ?_; clear hK K
  iterate 2 (refine wpMix_q rfl (fun K hK => ?_); refine ⟨_, (fun Wq hWq => by obtain ⟨g1, l1, g2, l2, g3, l3, hkq⟩ := hWq; go_simp; exact rfl), ?_⟩; go_simp; refine hK _ ?_; clear hK K)
  refine wpMix_nil (fun W2 hb2 => ?_)
  go_wp2_with fail
  go_ret
  exact ⟨rfl, ((own8.call hb1).call hb2).below⟩
end Go.Proofs.YtpoaakdljpdkfaaDoor

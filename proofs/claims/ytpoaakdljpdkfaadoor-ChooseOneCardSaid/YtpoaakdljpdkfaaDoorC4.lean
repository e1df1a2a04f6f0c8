/- THE WALKS OF ring: Before, Put, Genesis. -/
import Derived.Test.YtpoaakdljpdkfaaDoorC3
set_option linter.unusedSimpArgs false
set_option linter.unusedVariables false
namespace Go.Proofs.YtpoaakdljpdkfaaDoor
open Go.RowKit Go.Alm

theorem Before_any (r : Rg) (s : Nat) (w : World) (hs : s < 4294967296) :
    Calls Tryd.prog 120 #[.agg (encRg r), .int .u32 s] w fun e w' => e = .returned (.tuple #[.int .u32 ((beforeR r s).1 : Nat), .int .i64 ((beforeR r s).2 : Nat)]) ∧ Below w.heap.size w w' := by
  unfold beforeR
  by_cases h : s ≤ r.last
  · simp only [if_pos h]
    go_enter Tryd.func120, Tryd.ntmps120
    go_wp2_with fail
    go_ret2
    exact ⟨rfl, (Below.refl _ _).alloc (Nat.le_refl _) _⟩
  · simp only [if_neg h]
    go_enter Tryd.func120, Tryd.ntmps120
    go_wp2_with fail
    have hb0 : Below w.heap.size w (w.alloc (.cells (encRg r) 27)) := (Below.refl _ _).alloc (Nat.le_refl _) _
    refine (passed_any r s _ (by omega) hs).mono ?_
    rintro e w1 ⟨rfl, hb1⟩
    go_wp2_with fail
    refine (Sum_any _ _).mono ?_
    rintro e w2 ⟨rfl, hb2⟩
    go_wp2_with fail
    go_ret2
    have hb3 := hb0.trans (hb1.mono hb0.size)
    exact ⟨rfl, hb3.trans (hb2.mono hb3.size)⟩

theorem C4.get_put (c : C4) (k v : Nat) (h : k < 4) : (c.put k v).get k = v := by
  have := c.len
  simp [C4.get, C4.put, List.getD_eq_getElem?_getD, this, h]
@[go_sem] theorem get_put_mod (c : C4) (k v : Nat) : (c.put (k % 4) v).get (k % 4) = v := C4.get_put c _ v (by omega)
@[go_sem] theorem set_rg_mod_s (x : Rg) (k c : Nat) : (encRg x).setIfInBounds (1 + k % 4) (.int .u32 ((c : Int) + 1)) = encRg { x with counts := x.counts.put (k % 4) (c + 1) } := set_rg_at x _ (c + 1) (by omega)
@[go_sem] theorem set_rg_mod_1 (x : Rg) (k : Nat) : (encRg x).setIfInBounds (1 + k % 4) (.int .u32 1) = encRg { x with counts := x.counts.put (k % 4) 1 } := set_rg_at x _ 1 (by omega)
@[go_sem] theorem set_rg_1_1 (x : Rg) : (encRg x).setIfInBounds 1 (.int .u32 1) = encRg { x with counts := x.counts.put 0 1 } := set_rg_at x 0 1 (by omega)
theorem Owns.rg2 {w W : World} {b b' : Nat} {x y : Rg} (h : Owns w W [(b, encRg x), (b', encRg y)]) (hne : b ≠ b') (k v : Nat) (hk : k < 4) (hb : w.heap.size ≤ b') :
    Owns w (W.setCell ⟨b', 1 + k, none⟩ (.int .u32 (v : Int))) [(b, encRg x), (b', encRg { y with counts := y.counts.put k v })] := by
  have := h.setCell b' (1 + k) (.int .u32 (v : Int)) hb
  simp only [List.map_cons, List.map_nil, if_neg hne, if_true, set_rg_at _ _ _ hk] at this
  exact this

set_option maxRecDepth 20000 in
set_option maxHeartbeats 2000000 in
theorem RGenesis_any (w : World) :
    Calls Tryd.prog 105 #[] w fun e w' => e = .returned (.agg (encRg ringGenesis)) ∧ Below w.heap.size w w' := by
  go_enter Tryd.func105, Tryd.ntmps105
  go_wp2_with fail
  generalize hW : World.alloc (World.alloc w _) _ = W
  have own : Owns w W [(w.heap.size, encRg ring0), (w.heap.size + 1, encRg ring0)] := hW ▸ own_two w _ _ _ _
  clear hW
  generalize hg : ring0 = g0 at own
  obtain ⟨-, lt, row, fr⟩ := own.at2
  refine wp_loop_rounds 5 ?_
  rw [rounds_succ]; go_wp2_with fail
  have own1 := Owns.rg2 own (by omega) 0 3 (by omega) (by omega)
  simp only [Nat.add_zero, Nat.reduceAdd, Int.cast_ofNat_Int] at own1
  generalize hW : World.setCell _ _ _ = W1 at own1 ⊢
  clear hW own lt row fr
  obtain ⟨-, lt1, row1, fr1⟩ := own1.at2
  rw [rounds_succ]; go_wp2_with fail
  have own2 := Owns.rg2 own1 (by omega) 1 3 (by omega) (by omega)
  simp only [Nat.add_zero, Nat.reduceAdd, Int.cast_ofNat_Int] at own2
  generalize hW : World.setCell _ _ _ = W2 at own2 ⊢
  clear hW own1 lt1 row1 fr1
  obtain ⟨-, lt2, row2, fr2⟩ := own2.at2
  rw [rounds_succ]; go_wp2_with fail
  have own3 := Owns.rg2 own2 (by omega) 2 3 (by omega) (by omega)
  simp only [Nat.add_zero, Nat.reduceAdd, Int.cast_ofNat_Int] at own3
  generalize hW : World.setCell _ _ _ = W3 at own3 ⊢
  clear hW own2 lt2 row2 fr2
  obtain ⟨-, lt3, row3, fr3⟩ := own3.at2
  rw [rounds_succ]; go_wp2_with fail
  have own4 := Owns.rg2 own3 (by omega) 3 3 (by omega) (by omega)
  simp only [Nat.add_zero, Nat.reduceAdd, Int.cast_ofNat_Int] at own4
  generalize hW : World.setCell _ _ _ = W4 at own4 ⊢
  clear hW own3 lt3 row3 fr3
  obtain ⟨-, lt4, row4, fr4⟩ := own4.at2
  obtain ⟨-, lt0, row0, fr0⟩ := own4.at1
  have hne : w.heap.size ≠ w.heap.size + 1 := by omega
  rw [rounds_succ]; go_wp2_with fail
  exact ret_cell rfl rfl rfl (rWRg _ _ _ (by rw [rowD_setCells_same, rowD_setCell_other _ _ _ hne, row0, all_rg])) ⟨by subst hg; exact congrArg (fun x => Ending.returned (Value.agg (encRg x))) (by decide), below_setCells _ (by omega) _ _ _ _ (own4.below.setCell (p := ⟨w.heap.size + 1, _, none⟩) (by show _ ≤ w.heap.size + 1; omega) _)⟩

set_option maxRecDepth 20000 in
theorem Put_any (r : Rg) (s : Nat) (w : World) (hs : s < 4294967296) :
    Calls Tryd.prog 94 #[.agg (encRg r), .int .u32 s] w fun e w' => e = .returned (.tuple #[.agg (encRg (putR r s).1), .int .i64 ((putR r s).2 : Nat)]) ∧ Below w.heap.size w w' := by
  unfold putR
  generalize hV : Value.tuple _ = V
  replace hV := hV.symm
  go_enter Tryd.func94, Tryd.ntmps94
  go_wp2_with fail
  generalize hW : World.alloc (World.alloc w _) _ = W
  have own : Owns w W [(w.heap.size, encRg r), (w.heap.size + 1, encRg ring0)] := hW ▸ own_two w _ _ _ _
  clear hW
  refine (Ring_any s _ hs).mono ?_
  rintro e w1 ⟨rfl, hb1⟩
  have own1 := own.call hb1
  obtain ⟨-, lt, row, fr⟩ := own1.at1
  obtain ⟨-, lt', row', fr'⟩ := own1.at2
  have hb := own1.below
  by_cases h1 : s < r.last
  · rw [if_pos h1] at hV
    go_wp2_with fail
    exact ret_cell_tmp rfl rfl rfl (rWRg _ _ _ (by rw [rowD_setCells_same, row', all_rg])) ⟨by rw [hV]; rfl, below_setCells _ (by omega) _ _ _ _ hb⟩
  rw [if_neg h1] at hV
  by_cases h2 : s = r.last
  · by_cases h3 : 3 ≤ r.counts.get (s % 4)
    · rw [if_pos ⟨h2, h3⟩] at hV
      rw [h2] at h3
      go_wp2_with fail
      exact ret_cell_tmp rfl rfl rfl (rWRg _ _ _ (by rw [rowD_setCells_same, row', all_rg])) ⟨by rw [hV]; rfl, below_setCells _ (by omega) _ _ _ _ hb⟩
    · rw [if_neg (fun h => h3 h.2), if_neg (by omega)] at hV
      rw [h2] at h3 hV
      have hne : w.heap.size + 1 ≠ w.heap.size := by omega
      go_wp2_with fail
      refine ret_cell_tmp rfl rfl rfl (rWRg _ _ _ (by rw [rowD_setCells_same, rowD_setCell_other _ _ _ hne, row', all_rg])) ⟨?_, below_setCells _ (by omega) _ _ _ _ (hb.setCell (p := ⟨w.heap.size, _, none⟩) (Nat.le_refl _) _)⟩
      rw [hV, Nat.mod_eq_of_lt (show r.counts.get (r.last % 4) + 1 < 4294967296 by omega)]; rfl
  · rw [if_neg (fun h => h2 h.1), if_pos (show r.last < s by omega)] at hV
    simp only [get_put_mod] at hV
    go_wp2_with fail
    refine (passed_any r s _ (by omega) hs).mono ?_
    rintro e w2 ⟨rfl, hb2⟩
    have own2 := own1.call hb2
    obtain ⟨-, lt2, row2, fr2⟩ := own2.at1
    obtain ⟨-, lt2', row2', fr2'⟩ := own2.at2
    have hb3 := own2.below
    have hne : w.heap.size + 1 ≠ w.heap.size := by omega
    go_wp2_with fail
    refine ret_cell_tmp rfl rfl rfl (rWRg _ _ _ (by rw [rowD_setCells_same, rowD_setCell_other _ _ _ hne, rowD_setCell_other _ _ _ hne, rowD_setCell_other _ _ _ hne, rowD_setCells_other _ _ hne, row2', all_rg])) ⟨?_, below_setCells _ (by omega) _ _ _ _ (((below_setCells _ (Nat.le_refl _) _ _ _ _ hb3).setCell (p := ⟨w.heap.size, _, none⟩) (Nat.le_refl _) _).setCell (p := ⟨w.heap.size, _, none⟩) (Nat.le_refl _) _ |>.setCell (p := ⟨w.heap.size, _, none⟩) (Nat.le_refl _) _)⟩
    rw [hV]; rfl
end Go.Proofs.YtpoaakdljpdkfaaDoor

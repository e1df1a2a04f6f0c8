/- THE WALKS OF cmp.Compare, slices.Compare, order.Hashes, order.Compare, order.Of. -/
import Derived.Test.YtpoaakdljpdkfaaDoorC25
import Derived.Test.YtpoaakdljpdkfaaDoorC16
set_option linter.unusedSimpArgs false
set_option linter.unusedVariables false
namespace Go.Proofs.YtpoaakdljpdkfaaDoor
open Go.RowKit Go.Alm
theorem isNaN32_any (n : Nat) (w : World) : Calls Tryd.prog 145 #[.int .u32 (n : Int)] w fun e w' => e = .returned (.bool false) ∧ w' = w := by
  go_enter Tryd.func145, Tryd.ntmps145
  have h : ((n : Int) != (n : Int)) = false := by simp
  go_wp2_with fail
  go_ret
  exact ⟨rfl, rfl⟩
theorem isNaN8_any (n : Nat) (w : World) : Calls Tryd.prog 162 #[.int .u8 (n : Int)] w fun e w' => e = .returned (.bool false) ∧ w' = w := by
  go_enter Tryd.func162, Tryd.ntmps162
  have h : ((n : Int) != (n : Int)) = false := by simp
  go_wp2_with fail
  go_ret
  exact ⟨rfl, rfl⟩
theorem cmp32_any (a b : Nat) (w : World) : Calls Tryd.prog 115 #[.int .u32 (a : Int), .int .u32 (b : Int)] w fun e w' => e = .returned (.int .i64 (cmpN a b)) ∧ w' = w := by
  have hV : ∀ _ : Unit, cmpN a b = if a < b then -1 else if b < a then 1 else 0 := fun _ => rfl
  go_enter Tryd.func115, Tryd.ntmps115
  go_wp2_with fail
  refine (isNaN32_any a _).mono ?_
  rintro e w1 ⟨rfl, rfl⟩
  go_wp2_with fail
  refine (isNaN32_any b _).mono ?_
  rintro e w1 ⟨rfl, rfl⟩
  by_cases h1 : a < b
  · go_wp2_with fail
    go_ret
    exact ⟨by rw [hV (), if_pos h1]; rfl, rfl⟩
  · by_cases h2 : b < a
    · go_wp2_with fail
      go_ret
      exact ⟨by rw [hV (), if_neg h1, if_pos h2]; rfl, rfl⟩
    · go_wp2_with fail
      go_ret
      exact ⟨by rw [hV (), if_neg h1, if_neg h2]; rfl, rfl⟩
theorem cmp8_any (a b : Nat) (w : World) : Calls Tryd.prog 157 #[.int .u8 (a : Int), .int .u8 (b : Int)] w fun e w' => e = .returned (.int .i64 (cmpN a b)) ∧ w' = w := by
  have hV : ∀ _ : Unit, cmpN a b = if a < b then -1 else if b < a then 1 else 0 := fun _ => rfl
  go_enter Tryd.func157, Tryd.ntmps157
  go_wp2_with fail
  refine (isNaN8_any a _).mono ?_
  rintro e w1 ⟨rfl, rfl⟩
  go_wp2_with fail
  refine (isNaN8_any b _).mono ?_
  rintro e w1 ⟨rfl, rfl⟩
  by_cases h1 : a < b
  · go_wp2_with fail
    go_ret
    exact ⟨by rw [hV (), if_pos h1]; rfl, rfl⟩
  · by_cases h2 : b < a
    · go_wp2_with fail
      go_ret
      exact ⟨by rw [hV (), if_neg h1, if_pos h2]; rfl, rfl⟩
    · go_wp2_with fail
      go_ret
      exact ⟨by rw [hV (), if_neg h1, if_neg h2]; rfl, rfl⟩
theorem cmpL_end (l m : List Nat) (hl : l.length = m.length) (k : Nat) (h : k = l.length) : cmpL (l.drop k) (m.drop k) = 0 := by
  rw [List.drop_eq_nil_of_le (by omega), List.drop_eq_nil_of_le (by omega)]; rfl
theorem cmpL_stop (l m : List Nat) (k : Nat) (h1 : k < l.length) (h2 : k < m.length) (h : cmpN (l.getD k 0) (m.getD k 0) ≠ 0) : cmpL (l.drop k) (m.drop k) = cmpN (l.getD k 0) (m.getD k 0) := by
  have e1 : l.getD k 0 = l[k] := by simp [List.getD, h1]
  have e2 : m.getD k 0 = m[k] := by simp [List.getD, h2]
  rw [e1, e2] at h ⊢
  rw [List.drop_eq_getElem_cons h1, List.drop_eq_getElem_cons h2, cmpL, if_pos h]
theorem cmpL_on (l m : List Nat) (k : Nat) (h1 : k < l.length) (h2 : k < m.length) (h : cmpN (l.getD k 0) (m.getD k 0) = 0) : cmpL (l.drop k) (m.drop k) = cmpL (l.drop (k + 1)) (m.drop (k + 1)) := by
  have e1 : l.getD k 0 = l[k] := by simp [List.getD, h1]
  have e2 : m.getD k 0 = m[k] := by simp [List.getD, h2]
  rw [e1, e2] at h
  rw [List.drop_eq_getElem_cons h1, List.drop_eq_getElem_cons h2, cmpL, if_neg (by simpa using h)]
set_option maxRecDepth 20000 in
theorem sCompare_any (a b : H32) (p q : Nat) (w : World) (hp : p < w.heap.size) (hq : q < w.heap.size) (rp : w.rowD p = encH a) (rq : w.rowD q = encH b) :
    Calls Tryd.prog 146 #[.slice (some ⟨p, 0, none⟩) 32 32, .slice (some ⟨q, 0, none⟩) 32 32] w fun e w' => e = .returned (.int .i64 (cmpL a.l b.l)) ∧ w' = w := by
  have hal := a.len
  have hbl := b.len
  go_enter Tryd.func146, Tryd.ntmps146
  go_wp2_with fail
  go_loopw [11] (fun i wr => ∃ k : Nat, k ≤ 32 ∧ i = .int .i64 k ∧ (∀ _ : Unit, cmpL a.l b.l = cmpL (a.l.drop k) (b.l.drop k)) ∧ wr = w)
    (fun i _ => 32 - (intOf i).toNat)
  case atStart => exact ⟨0, Nat.zero_le _, rfl, fun _ => rfl, rfl⟩
  case round =>
    obtain ⟨k, hk, rfl, hc, rfl⟩ := hrel
    by_cases hend : k = 32
    · have hfin : ∀ _ : Unit, cmpL a.l b.l = 0 := fun _ => (hc ()).trans (cmpL_end _ _ (by rw [hal, hbl]) k (by omega))
      subst hend
      clear hc
      go_wp2_with fail
      go_ret
      exact ⟨by rw [hfin ()]; rfl, rfl⟩
    · have hlt : k < 32 := by omega
      have e1 : (encH a)[k]'(by rw [size_encH]; omega) = .int .u8 (a.l.getD k 0 : Nat) := by simp [encH, encHL, hal, hlt]
      have e2 : (encH b)[k]'(by rw [size_encH]; omega) = .int .u8 (b.l.getD k 0 : Nat) := by simp [encH, encHL, hbl, hlt]
      have hst := cmpL_stop a.l b.l k (by omega) (by omega)
      have hon := cmpL_on a.l b.l k (by omega) (by omega)
      generalize a.l.getD k 0 = x at e1 hst hon
      generalize b.l.getD k 0 = y at e2 hst hon
      replace hst : ∀ _ : Unit, cmpN x y ≠ 0 → cmpL a.l b.l = cmpN x y := fun _ h => (hc ()).trans (hst h)
      replace hon : ∀ _ : Unit, cmpN x y = 0 → cmpL a.l b.l = cmpL (a.l.drop (k + 1)) (b.l.drop (k + 1)) := fun _ h => (hc ()).trans (hon h)
      clear hc
      go_wp2_with fail
      refine (cmp8_any x y _).mono ?_
      rintro e w1 ⟨rfl, rfl⟩
      by_cases h0 : cmpN x y = 0
      · have hon' : ∀ _ : Unit, cmpL a.l b.l = cmpL (a.l.drop (k + 1)) (b.l.drop (k + 1)) := fun _ => hon () h0
        have f1 : (cmpN x y != 0) = false := by rw [h0]; rfl
        clear hst hon
        go_wp2_with fail
        exact ⟨⟨k + 1, by omega, by go_num, hon', trivial⟩, by simp [intOf]; omega⟩
      · have hst' : ∀ _ : Unit, cmpL a.l b.l = cmpN x y := fun _ => hst () h0
        have f1 : (cmpN x y != 0) = true := by simpa using h0
        clear hst hon
        go_wp2_with fail
        go_ret
        exact ⟨by rw [hst' ()]; rfl, rfl⟩
set_option maxRecDepth 20000 in
theorem Hashes_any (a b : H32) (w : World) : Calls Tryd.prog 116 #[.agg (encH a), .agg (encH b)] w fun e w' => e = .returned (.int .i64 (cmpL a.l b.l)) ∧ Below w.heap.size w w' := by
  go_enter Tryd.func116, Tryd.ntmps116
  go_wp2_with fail
  generalize hW : World.alloc (World.alloc w _) _ = W
  have own : Owns w W [(w.heap.size, encH a), (w.heap.size + 1, encH b)] := hW ▸ own_two w _ _ _ _
  clear hW
  refine wp_region_mix [true, true, true, true] (fun W => W.rowD w.heap.size = encH a ∧ w.heap.size < W.heap.size ∧ W.rowD (w.heap.size + 1) = encH b ∧ w.heap.size + 1 < W.heap.size)
    (fun W W' h hb => ⟨(rowD_congr (hb.block _ h.2.1)).trans h.1, Nat.lt_of_lt_of_le h.2.1 hb.size, (rowD_congr (hb.block _ h.2.2.2)).trans h.2.2.1, Nat.lt_of_lt_of_le h.2.2.2 hb.size⟩)
    ⟨own.at1.2.2.1, own.at1.2.1, own.at2.2.2.1, own.at2.2.1⟩ (by kernel_rfl) (by kernel_rfl) ?_
  intro W1 hb1 hC1
  iterate 2 (refine wpMix_q rfl (fun K hK => ?_); refine ⟨_, (fun Wq hWq => by obtain ⟨g1, l1, g2, l2⟩ := hWq; go_simp; exact rfl), ?_⟩; go_simp; refine hK _ ?_; clear hK K)
  refine wpMix_q rfl (fun K hK => ?_); refine ⟨_, (fun Wq hWq => by obtain ⟨g1, l1, g2, l2⟩ := hWq; go_simp; exact Calls.grow_of ((sCompare_any a b _ _ Wq l1 l2 g1 g2).mono (fun e w' h => ⟨h.1, h.2 ▸ Below.refl _ _⟩)) rfl), ?_⟩; go_simp; refine hK _ ?_; clear hK K
  iterate 1 (refine wpMix_q rfl (fun K hK => ?_); refine ⟨_, (fun Wq hWq => by obtain ⟨g1, l1, g2, l2⟩ := hWq; go_simp; exact rfl), ?_⟩; go_simp; refine hK _ ?_; clear hK K)
  refine wpMix_nil (fun W2 hb2 => ?_)
  go_wp2_with fail
  go_ret
  exact ⟨rfl, ((own.call hb1).call hb2).below⟩
set_option maxRecDepth 20000 in
theorem longer_any (a b : Ky) (w : World) : Calls Tryd.prog 88 #[.agg (encKy a), .agg (encKy b)] w fun e w' => e = .returned (.int .i64 (cmpN a.length b.length)) ∧ Below w.heap.size w w' := by
  go_enter Tryd.func88, Tryd.ntmps88
  go_wp2_with fail
  generalize hW : World.alloc (World.alloc w _) _ = W
  have own : Owns w W [(w.heap.size, encKy a), (w.heap.size + 1, encKy b)] := hW ▸ own_two w _ _ _ _
  clear hW
  obtain ⟨-, lt0, row0, -⟩ := own.at1
  obtain ⟨-, lt1, row1, -⟩ := own.at2
  go_wp2_with fail
  refine (cmp32_any a.length b.length _).mono ?_
  rintro e w1 ⟨rfl, rfl⟩
  go_wp2_with fail
  go_ret
  exact ⟨rfl, own.below⟩
set_option maxRecDepth 20000 in
theorem drawn_any (a b : Ky) (w : World) : Calls Tryd.prog 89 #[.agg (encKy a), .agg (encKy b)] w fun e w' => e = .returned (.int .i64 (cmpL a.draw.l b.draw.l)) ∧ Below w.heap.size w w' := by
  go_enter Tryd.func89, Tryd.ntmps89
  go_wp2_with fail
  generalize hW : World.alloc (World.alloc w _) _ = W
  have own : Owns w W [(w.heap.size, encKy a), (w.heap.size + 1, encKy b)] := hW ▸ own_two w _ _ _ _
  clear hW
  obtain ⟨-, lt0, row0, -⟩ := own.at1
  obtain ⟨-, lt1, row1, -⟩ := own.at2
  go_wp2_with fail
  refine (Hashes_any a.draw b.draw _).mono ?_
  rintro e w1 ⟨rfl, hb1⟩
  go_wp2_with fail
  go_ret
  exact ⟨rfl, (own.call hb1).below⟩
set_option maxRecDepth 20000 in
theorem named_any (a b : Ky) (w : World) : Calls Tryd.prog 90 #[.agg (encKy a), .agg (encKy b)] w fun e w' => e = .returned (.int .i64 (cmpL a.hash.l b.hash.l)) ∧ Below w.heap.size w w' := by
  go_enter Tryd.func90, Tryd.ntmps90
  go_wp2_with fail
  generalize hW : World.alloc (World.alloc w _) _ = W
  have own : Owns w W [(w.heap.size, encKy a), (w.heap.size + 1, encKy b)] := hW ▸ own_two w _ _ _ _
  clear hW
  obtain ⟨-, lt0, row0, -⟩ := own.at1
  obtain ⟨-, lt1, row1, -⟩ := own.at2
  go_wp2_with fail
  refine (Hashes_any a.hash b.hash _).mono ?_
  rintro e w1 ⟨rfl, hb1⟩
  go_wp2_with fail
  go_ret
  exact ⟨rfl, (own.call hb1).below⟩
set_option maxRecDepth 20000 in
theorem Of_key_any (s : St) (w : World) (hk : Keyed w) (hs : s.Wf) : Calls Tryd.prog 34 #[.agg (encSt s)] w fun e w' => e = .returned (.agg (encKy (Go.Alm.keyOf s))) ∧ Below w.heap.size w w' := by
  have hV : ∀ _ : Unit, Go.Alm.keyOf s = ⟨s.length, s.draw, hashOf s⟩ := fun _ => rfl
  go_enter Tryd.func34, Tryd.ntmps34
  go_wp2_with fail
  generalize hW : World.alloc (World.alloc w _) _ = W
  have own : Owns w W [(w.heap.size, encSt s), (w.heap.size + 1, encKy key0)] := hW ▸ own_two w _ _ _ _
  clear hW
  refine wp_region_midD 7 0 (fun W => W.rowD w.heap.size = encSt s ∧ w.heap.size < W.heap.size ∧ Keyed W)
    (fun W W' h hb => ⟨(rowD_congr (hb.block _ h.2.1)).trans h.1, Nat.lt_of_lt_of_le h.2.1 hb.size, h.2.2.below hb⟩)
    ⟨own.at1.2.2.1, own.at1.2.1, hk.below own.drew.below⟩ (by kernel_rfl) (by kernel_rfl) ?_
  simp only [List.take_succ_cons, List.take_zero, List.drop_succ_cons, List.drop_zero]
  iterate 5 (refine wpGrowC_y rfl (fun K hK => ?_); refine ⟨_, (fun W hW => by obtain ⟨g1, l1, hkq⟩ := hW; go_simp; exact rfl), ?_⟩; go_simp; refine hK _ ?_; clear hK K)
  refine wpGrowC_y rfl (fun K hK => ?_); refine ⟨_, (fun W hW => by obtain ⟨g1, l1, hkq⟩ := hW; go_simp; exact Calls.grow_of (Hash_any s W hkq hs) rfl), ?_⟩; go_simp; refine hK _ ?_; clear hK K
  iterate 1 (refine wpGrowC_y rfl (fun K hK => ?_); refine ⟨_, (fun W hW => by obtain ⟨g1, l1, hkq⟩ := hW; go_simp; exact rfl), ?_⟩; go_simp; refine hK _ ?_; clear hK K)
  refine wpGrowC_nil ?_
  intro W1 hb1 hC1
  refine wpMidC_nil (fun W2 hb2 => ?_)
  have own2 := (own.call hb1).call hb2
  clear own hb1 hC1 hb2
  obtain ⟨-, lt1, row1, fr1⟩ := own2.at2
  go_wp2_with fail
  exact ret_cell rfl rfl rfl (rWKy _ _ ⟨s.length, s.draw, hashOf s⟩ (by rw [rowD_setCells_same, row1, spliceL_all _ _ (by rw [Array.length_toList, size_encKy, size_encKy])])) ⟨rfl, below_setCells _ (by omega) _ _ _ _ own2.below⟩
end Go.Proofs.YtpoaakdljpdkfaaDoor

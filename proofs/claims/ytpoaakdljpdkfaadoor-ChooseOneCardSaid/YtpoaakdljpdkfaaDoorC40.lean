/- THE WALKS OF THE REFERENCE's Right: it answers, whatever it answers. -/
import Derived.Test.YtpoaakdljpdkfaaDoorTyR
import Derived.Test.YtpoaakdljpdkfaaDoorC25
set_option linter.unusedSimpArgs false
set_option linter.unusedVariables false
namespace Go.Alm
def r6 (r : Rg) : Bool := r.counts.l.all (fun x => decide (x ≤ 3)) && decide (1 ≤ r.counts.get (r.last % 4))
def r7 (x : Wn) : Bool := decide (x.min ≤ 12) && r6 x.ring
def Ans (e : Ending) : Prop := ∃ b : Bool, e = .returned (.bool b)
theorem r6_no (r : Rg) (k : Nat) (hk : k < 4) (h : 3 < r.counts.get k) : r6 r = false := by
  unfold r6
  have : r.counts.l.all (fun x => decide (x ≤ 3)) = false := by
    rw [List.all_eq_false]
    refine ⟨r.counts.l[k]'(by rw [r.counts.len]; exact hk), List.getElem_mem _, ?_⟩
    have e : r.counts.get k = r.counts.l[k]'(by rw [r.counts.len]; exact hk) := by simp [C4.get, List.getD, r.counts.len, hk]
    rw [e] at h
    simpa using h
  rw [this]; rfl
theorem r6_yes (r : Rg) (h : ∀ j, j < 4 → r.counts.get j ≤ 3) : r6 r = decide (1 ≤ r.counts.get (r.last % 4)) := by
  unfold r6
  have : r.counts.l.all (fun x => decide (x ≤ 3)) = true := by
    rw [List.all_eq_true]
    intro x hx
    obtain ⟨j, hj, rfl⟩ := List.getElem_of_mem hx
    have hj4 : j < 4 := by rw [r.counts.len] at hj; exact hj
    have e : r.counts.get j = r.counts.l[j] := by simp [C4.get, List.getD, hj]
    have := h j hj4
    rw [e] at this
    simpa using this
  rw [this]; rfl
end Go.Alm
namespace Go.Proofs.YtpoaakdljpdkfaaDoor
open Go.RowKit Go.Alm
theorem R5Sub_any (n : Nat) (w : World) (h0 : n < 4294967296) : Calls Tryd.prog 24 #[.int .u32 n] w fun e w' => e = .returned (.int .u32 (n / 3 : Nat)) ∧ w' = w := by
  go_enter Tryd.func24, Tryd.ntmps24
  go_wp2_with fail
  go_ret
  exact ⟨by simp, rfl⟩
theorem R5Epoch_any (n : Nat) (w : World) (h0 : n < 4294967296) : Calls Tryd.prog 20 #[.int .u32 n] w fun e w' => e = .returned (.int .u32 (n / 24 : Nat)) ∧ w' = w := by
  go_enter Tryd.func20, Tryd.ntmps20
  go_wp2_with fail
  go_ret
  exact ⟨by simp, rfl⟩
theorem R5Place_any (n : Nat) (w : World) (h0 : n < 4294967296) : Calls Tryd.prog 70 #[.int .u32 n] w fun e w' => e = .returned (.int .u32 (n % 24 : Nat)) ∧ w' = w := by
  have e1 : IntKind.u32.wrap (24 * ((n / 24 : Nat) : Int)) = 24 * ((n / 24 : Nat) : Int) := by rw [IntKind.wrap_u32]; omega
  have e2 : IntKind.u32.wrap ((n : Int) - 24 * ((n / 24 : Nat) : Int)) = ((n % 24 : Nat) : Int) := by rw [IntKind.wrap_u32]; omega
  go_enter Tryd.func70, Tryd.ntmps70
  go_wp2_with fail
  refine (R5Epoch_any n _ h0).mono ?_
  rintro e w1 ⟨rfl, rfl⟩
  go_wp2_with fail
  go_ret
  exact ⟨by first | rfl | (simp; omega), rfl⟩
set_option maxRecDepth 20000 in
set_option maxHeartbeats 1000000 in
theorem R6Right_any (r : Rg) (w : World) : Calls Tryd.prog 132 #[.agg (encRg r)] w fun e w' => e = .returned (.bool (r6 r)) ∧ Below w.heap.size w w' := by
  go_enter Tryd.func132, Tryd.ntmps132
  go_wp2_with fail
  generalize hW : World.alloc w _ = W
  have own : Owns w W [(w.heap.size, encRg r)] := hW ▸ own_one w _ _
  clear hW
  obtain ⟨-, lt0, row0, -⟩ := own.at1
  go_loopw [3] (fun i wr => ∃ k : Nat, k ≤ 4 ∧ i = .int .i64 k ∧ (∀ j, j < k → r.counts.get j ≤ 3) ∧ wr = W) (fun i _ => 4 - (intOf i).toNat)
  case atStart => exact ⟨0, Nat.zero_le _, rfl, fun j hj => by omega, rfl⟩
  case round =>
    obtain ⟨k, hk, rfl, hall, rfl⟩ := hrel
    by_cases hend : k = 4
    · have hV : ∀ _ : Unit, r6 r = decide (1 ≤ r.counts.get (r.last % 4)) := fun _ => r6_yes r (fun j hj => hall j (by omega))
      subst hend
      clear hall
      have g := rg_at r (r.last % 4) (Nat.mod_lt _ (by omega))
      replace hV : ∀ _ : Unit, r6 r = decide ((1 : Int) ≤ ((r.counts.get (r.last % 4) : Nat) : Int)) := fun _ => by rw [hV ()]; congr 1; apply propext; omega
      go_wp2_with fail
      go_ret
      exact ⟨by rw [hV ()]; rfl, own.below⟩
    · have hlt : k < 4 := by omega
      have g := rg_at r k hlt
      have g' : (encRg r)[1 + k]'(by rw [size_encRg]; omega) = .int .u32 (r.counts.get k : Nat) := Option.some.inj ((Array.getElem?_eq_getElem _).symm.trans g)
      by_cases hc : 3 < r.counts.get k
      · have hV : ∀ _ : Unit, r6 r = false := fun _ => r6_no r k hlt hc
        clear hall
        go_wp2_with fail
        go_ret
        exact ⟨by rw [hV ()]; rfl, own.below⟩
      · have hall' : ∀ j, j < k + 1 → r.counts.get j ≤ 3 := fun j hj => by
          by_cases h : j < k
          · exact hall j h
          · have : j = k := by omega
            subst this; omega
        clear hall
        go_wp2_with fail
        exact ⟨⟨k + 1, by omega, by go_num, hall', trivial⟩, by simp [intOf]; omega⟩
set_option maxRecDepth 20000 in
set_option maxHeartbeats 1000000 in
theorem R7Right_any (x : Wn) (w : World) : Calls Tryd.prog 108 #[.agg (encWn x)] w fun e w' => e = .returned (.bool (r7 x)) ∧ Below w.heap.size w w' := by
  go_enter Tryd.func108, Tryd.ntmps108
  have hV : ∀ _ : Unit, r7 x = (decide (x.min ≤ 12) && r6 x.ring) := fun _ => rfl
  by_cases hm : x.min ≤ 12
  · go_wp2_with fail
    have own := own_one w (encWn x) 88
    refine (R6Right_any x.ring _).mono ?_
    rintro e w1 ⟨rfl, hb1⟩
    have own1 := own.call hb1
    cases hb : r6 x.ring
    · go_wp2_with fail
      go_ret
      exact ⟨by rw [hV ()]; simp [hm, hb], own1.below⟩
    · go_wp2_with fail
      go_ret
      exact ⟨by rw [hV ()]; simp [hm, hb], own1.below⟩
  · go_wp2_with fail
    go_ret
    exact ⟨by rw [hV ()]; simp [hm], (own_one w _ _).below⟩
set_option maxRecDepth 20000 in
set_option maxHeartbeats 4000000 in
theorem R9Right_any (s : St) (w : World) (hs : s.Wf) : Calls Tryd.prog 73 #[.agg (encSt s)] w fun e w' => Ans e ∧ Below w.heap.size w w' := by
  go_enter Tryd.func73, Tryd.ntmps73
  go_wp2_with fail
  generalize hW : World.alloc w _ = W
  have own : Owns w W [(w.heap.size, encSt s)] := hW ▸ own_one w _ _
  clear hW
  refine wp_region_mix [true, true, true, true, true, true, true, true, true, true, true, true, true, true] (fun W => W.rowD w.heap.size = encSt s ∧ w.heap.size < W.heap.size)
    (fun W W' h hb => ⟨(rowD_congr (hb.block _ h.2)).trans h.1, Nat.lt_of_lt_of_le h.2 hb.size⟩) ⟨own.at1.2.2.1, own.at1.2.1⟩ (by kernel_rfl) (by kernel_rfl) ?_
  intro W1 hb1 hC1
  iterate 2 (refine wpMix_q rfl (fun K hK => ?_); refine ⟨_, (fun Wq hWq => by obtain ⟨g1, l1⟩ := hWq; go_simp; exact rfl), ?_⟩; go_simp; refine hK _ ?_; clear hK K)
  obtain ⟨b7, hb7⟩ : ∃ b7, r7 s.win = b7 := ⟨_, rfl⟩
  refine wpMix_q rfl (fun K hK => ?_); refine ⟨_, (fun Wq hWq => by obtain ⟨g1, l1⟩ := hWq; go_simp; exact Calls.grow_of (hb7 ▸ R7Right_any s.win Wq) rfl), ?_⟩; go_simp; refine hK _ ?_; clear hK K
  clear hb7
  cases b7
  · iterate 2 (refine wpMix_q rfl (fun K hK => ?_); refine ⟨_, (fun Wq hWq => by obtain ⟨g1, l1⟩ := hWq; go_simp; exact rfl), ?_⟩; go_simp; refine hK _ ?_; clear hK K)
    iterate 8 (refine wpMix_qn rfl (fun K hK => ?_); go_simp; refine hK _ ?_; clear hK K)
    iterate 1 (refine wpMix_q rfl (fun K hK => ?_); refine ⟨_, (fun Wq hWq => by obtain ⟨g1, l1⟩ := hWq; go_simp; exact rfl), ?_⟩; go_simp; refine hK _ ?_; clear hK K)
    refine wpMix_nil (fun W2 hb2 => ?_)
    go_wp2_with fail
    go_ret
    exact ⟨⟨_, rfl⟩, ((own.call hb1).call hb2).below⟩
  iterate 2 (refine wpMix_q rfl (fun K hK => ?_); refine ⟨_, (fun Wq hWq => by obtain ⟨g1, l1⟩ := hWq; go_simp; exact rfl), ?_⟩; go_simp; refine hK _ ?_; clear hK K)
  iterate 6 (refine wpMix_qy rfl (fun K hK => ?_); refine ⟨_, (fun Wq hWq => by obtain ⟨g1, l1⟩ := hWq; go_simp; exact rfl), ?_⟩; go_simp; refine hK _ ?_; clear hK K)
  refine wpMix_qy rfl (fun K hK => ?_); refine ⟨_, (fun Wq hWq => by obtain ⟨g1, l1⟩ := hWq; go_simp; exact Calls.grow_of ((R5Sub_any s.slot Wq hs.slot).mono (fun e w' h => ⟨h.1, h.2 ▸ Below.refl _ _⟩)) rfl), ?_⟩; go_simp; refine hK _ ?_; clear hK K
  by_cases hlast : s.win.ring.last = s.slot / 3
  rotate_left
  · have f1 : ((s.win.ring.last : Int) != ((s.slot / 3 : Nat) : Int)) = true := by simpa using (by omega : ¬ (s.win.ring.last : Int) = ((s.slot / 3 : Nat) : Int))
    iterate 1 (refine wpMix_qy rfl (fun K hK => ?_); refine ⟨_, (fun Wq hWq => by obtain ⟨g1, l1⟩ := hWq; go_simp; exact rfl), ?_⟩; go_simp; refine hK _ ?_; clear hK K)
    iterate 1 (refine wpMix_q rfl (fun K hK => ?_); refine ⟨_, (fun Wq hWq => by obtain ⟨g1, l1⟩ := hWq; go_simp; exact rfl), ?_⟩; go_simp; refine hK _ ?_; clear hK K)
    refine wpMix_nil (fun W2 hb2 => ?_)
    go_wp2_with fail
    go_ret
    exact ⟨⟨_, rfl⟩, ((own.call hb1).call hb2).below⟩
  have f1 : ((s.win.ring.last : Int) != ((s.slot / 3 : Nat) : Int)) = false := by simpa using (by omega : (s.win.ring.last : Int) = ((s.slot / 3 : Nat) : Int))
  iterate 1 (refine wpMix_qy rfl (fun K hK => ?_); refine ⟨_, (fun Wq hWq => by obtain ⟨g1, l1⟩ := hWq; go_simp; exact rfl), ?_⟩; go_simp; refine hK _ ?_; clear hK K)
  iterate 1 (refine wpMix_q rfl (fun K hK => ?_); refine ⟨_, (fun Wq hWq => by obtain ⟨g1, l1⟩ := hWq; go_simp; exact rfl), ?_⟩; go_simp; refine hK _ ?_; clear hK K)
  clear f1 hlast
  refine wpMix_nil (fun W2 hb2 => ?_)
  have own2 := (own.call hb1).call hb2
  clear own hb1 hC1 hb2
  obtain ⟨-, lt0, row0, -⟩ := own2.at1
  have hsl := hs.slot
  have hln := hs.length
  by_cases hl1 : s.length < 1
  · go_wp2_with fail
    go_ret
    exact ⟨⟨_, rfl⟩, own2.below⟩
  by_cases hl2 : s.slot + 1 < s.length
  · go_wp2_with fail
    go_ret
    exact ⟨⟨_, rfl⟩, own2.below⟩
  go_wp2_with fail
  clear lt0 row0
  refine wp_region_mix [true, true, true, true, true, true, true, true, true, true, true, true, true] (fun W => W.rowD w.heap.size = encSt s ∧ w.heap.size < W.heap.size)
    (fun W W' h hb => ⟨(rowD_congr (hb.block _ h.2)).trans h.1, Nat.lt_of_lt_of_le h.2 hb.size⟩) ⟨own2.at1.2.2.1, own2.at1.2.1⟩ (by kernel_rfl) (by kernel_rfl) ?_
  intro W3 hb3 hC3
  iterate 4 (refine wpMix_q rfl (fun K hK => ?_); refine ⟨_, (fun Wq hWq => by obtain ⟨g1, l1⟩ := hWq; go_simp; exact rfl), ?_⟩; go_simp; refine hK _ ?_; clear hK K)
  refine wpMix_q rfl (fun K hK => ?_); refine ⟨_, (fun Wq hWq => by obtain ⟨g1, l1⟩ := hWq; go_simp; exact Calls.grow_of ((R5Epoch_any s.slot Wq hs.slot).mono (fun e w' h => ⟨h.1, h.2 ▸ Below.refl _ _⟩)) rfl), ?_⟩; go_simp; refine hK _ ?_; clear hK K
  by_cases hc1 : s.slot / 24 < s.count
  · have f1 : ((s.slot : Int) / 24 < (s.count : Int)) := by omega
    iterate 2 (refine wpMix_q rfl (fun K hK => ?_); refine ⟨_, (fun Wq hWq => by obtain ⟨g1, l1⟩ := hWq; go_simp; exact rfl), ?_⟩; go_simp; refine hK _ ?_; clear hK K)
    iterate 5 (refine wpMix_qn rfl (fun K hK => ?_); go_simp; refine hK _ ?_; clear hK K)
    iterate 1 (refine wpMix_q rfl (fun K hK => ?_); refine ⟨_, (fun Wq hWq => by obtain ⟨g1, l1⟩ := hWq; go_simp; exact rfl), ?_⟩; go_simp; refine hK _ ?_; clear hK K)
    refine wpMix_nil (fun W4 hb4 => ?_)
    go_wp2_with fail
    go_ret
    exact ⟨⟨_, rfl⟩, ((own2.call hb3).call hb4).below⟩
  have f1 : ¬ ((s.slot : Int) / 24 < (s.count : Int)) := by omega
  by_cases hc2 : s.length ≤ s.count
  · iterate 2 (refine wpMix_q rfl (fun K hK => ?_); refine ⟨_, (fun Wq hWq => by obtain ⟨g1, l1⟩ := hWq; go_simp; exact rfl), ?_⟩; go_simp; refine hK _ ?_; clear hK K)
    iterate 5 (refine wpMix_qy rfl (fun K hK => ?_); refine ⟨_, (fun Wq hWq => by obtain ⟨g1, l1⟩ := hWq; go_simp; exact rfl), ?_⟩; go_simp; refine hK _ ?_; clear hK K)
    iterate 1 (refine wpMix_q rfl (fun K hK => ?_); refine ⟨_, (fun Wq hWq => by obtain ⟨g1, l1⟩ := hWq; go_simp; exact rfl), ?_⟩; go_simp; refine hK _ ?_; clear hK K)
    refine wpMix_nil (fun W4 hb4 => ?_)
    go_wp2_with fail
    go_ret
    exact ⟨⟨_, rfl⟩, ((own2.call hb3).call hb4).below⟩
  iterate 2 (refine wpMix_q rfl (fun K hK => ?_); refine ⟨_, (fun Wq hWq => by obtain ⟨g1, l1⟩ := hWq; go_simp; exact rfl), ?_⟩; go_simp; refine hK _ ?_; clear hK K)
  iterate 5 (refine wpMix_qy rfl (fun K hK => ?_); refine ⟨_, (fun Wq hWq => by obtain ⟨g1, l1⟩ := hWq; go_simp; exact rfl), ?_⟩; go_simp; refine hK _ ?_; clear hK K)
  iterate 1 (refine wpMix_q rfl (fun K hK => ?_); refine ⟨_, (fun Wq hWq => by obtain ⟨g1, l1⟩ := hWq; go_simp; exact rfl), ?_⟩; go_simp; refine hK _ ?_; clear hK K)
  refine wpMix_nil (fun W4 hb4 => ?_)
  have own4 := (own2.call hb3).call hb4
  clear own2 hb3 hC3 hb4
  obtain ⟨-, lt0, row0, -⟩ := own4.at1
  have hnx := hs.next
  by_cases hd1 : 1 ≤ s.epochs.next.length
  rotate_left
  · go_wp2_with fail
    go_ret
    exact ⟨⟨_, rfl⟩, own4.below⟩
  by_cases hd2 : s.epochs.next.length ≤ s.length
  rotate_left
  · go_wp2_with fail
    go_ret
    exact ⟨⟨_, rfl⟩, own4.below⟩
  go_wp2_with fail
  refine (R5Place_any s.slot _ hs.slot).mono ?_
  rintro e w5 ⟨rfl, rfl⟩
  go_wp2_with fail
  go_ret
  exact ⟨⟨_, rfl⟩, own4.below⟩
@[go_sem] theorem zcRSt (x : St) : spliceL Tryd.zeroCells93 0 (encSt x).toList = encSt x := by
  rw [spliceL_all _ _ (by rw [Array.length_toList, size_encSt]; kernel_rfl)]
set_option maxRecDepth 20000 in
set_option maxHeartbeats 1000000 in
theorem own13_any (s : St) (w : World) : Calls Tryd.prog 74 #[.agg (encSt s)] w fun e w' => e = .returned (.agg (encSt s)) ∧ Below w.heap.size w w' := by
  go_enter Tryd.func74, Tryd.ntmps74
  go_wp2_with fail
  have own := own_two w (encSt s) (encSt s) 35 93
  exact ret_cell rfl rfl rfl (rWRSt _ _ s own.at2.2.2.1) ⟨rfl, own.below⟩
end Go.Proofs.YtpoaakdljpdkfaaDoor

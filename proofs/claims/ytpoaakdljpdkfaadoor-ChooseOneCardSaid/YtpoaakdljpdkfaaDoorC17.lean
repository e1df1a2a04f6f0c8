/- THE WALK OF epoch.Follow. -/
import Derived.Test.YtpoaakdljpdkfaaDoorC16
set_option linter.unusedSimpArgs false
set_option linter.unusedVariables false
namespace Go.Alm
/-- a pair behind which a block's draw is taken, or not -/
def folEnd (y : Pr) (to : Nat) (prev draw : H32) : Pr := if locking to then ⟨y.now, { y.next with seed := tagOf seedName [y.next.seed.l, draw.l], lock := prev }⟩ else y
theorem follow_early {p : Pr} {f t : Nat} {a b c : H32} (h : t ≤ f) : Go.Alm.follow p f t a b c = (pair0, 6) := by unfold Go.Alm.follow; rw [if_pos h]
theorem follow_turn {p : Pr} {f t : Nat} {a b c : H32} (h : ¬ t ≤ f) (h2 : epochOf f < epochOf t) : Go.Alm.follow p f t a b c = (folEnd ⟨p.next, ⟨b, p.next.seed, a, zeroH, 1⟩⟩ t a c, 0) := by
  unfold Go.Alm.follow folEnd; rw [if_neg h]; simp only [h2, decide_true]; simp only [Bool.true_eq_false, false_and, if_false, if_true]; split <;> rfl
theorem follow_over {p : Pr} {f t : Nat} {a b c : H32} (h : ¬ t ≤ f) (h2 : ¬ epochOf f < epochOf t) (h3 : ¬ p.next.length + 1 < 4294967296) : Go.Alm.follow p f t a b c = (pair0, 5) := by
  unfold Go.Alm.follow; rw [if_neg h]; simp only [h2, decide_false, true_and]; rw [if_pos (by omega)]
theorem follow_on {p : Pr} {f t : Nat} {a b c : H32} (h : ¬ t ≤ f) (h2 : ¬ epochOf f < epochOf t) (h3 : p.next.length + 1 < 4294967296) : Go.Alm.follow p f t a b c = (folEnd ⟨p.now, { p.next with length := p.next.length + 1 }⟩ t a c, 0) := by
  unfold Go.Alm.follow folEnd; rw [if_neg h]; simp only [h2, decide_false, true_and]; rw [if_neg (by omega)]; simp only [Bool.false_eq_true, if_false]; split <;> rfl
end Go.Alm
namespace Go.Proofs.YtpoaakdljpdkfaaDoor
open Go.RowKit Go.Alm
set_option maxRecDepth 20000 in
set_option maxHeartbeats 2000000 in
theorem Follow_late (x y : Pr) (b : Eb) (w : World) (hk : Keyed w) (hf : b.frm < 4294967296) (ht : b.to < 4294967296) (hx : x.next.length < 4294967296) (h1 : ¬ b.to ≤ b.frm)
    (hy : (epochOf b.frm < epochOf b.to ∧ ∀ _ : Unit, y = ⟨x.next, ⟨b.ledger, x.next.seed, b.prev, zeroH, 1⟩⟩) ∨ (¬ epochOf b.frm < epochOf b.to ∧ x.next.length + 1 < 4294967296 ∧ ∀ _ : Unit, y = ⟨x.now, { x.next with length := x.next.length + 1 }⟩)) :
    Calls Tryd.prog 63 #[.agg (encPr x), .agg (encEb b)] w fun e w' => e = .returned (.tuple #[.agg (encPr (folEnd y b.to b.prev b.draw)), .int .i64 0]) ∧ Below w.heap.size w w' := by
  generalize hV : Value.tuple _ = V
  replace hV : ∀ _ : Unit, V = Value.tuple #[.agg (encPr (folEnd y b.to b.prev b.draw)), .int .i64 0] := fun _ => hV.symm
  go_enter Tryd.func63, Tryd.ntmps63
  go_wp2_with fail
  generalize hW : World.alloc (World.alloc (World.alloc w _) _) _ = W
  have own := own_three w (encPr x) (encEb b) (encPr pair0) 33 121 33
  replace own : Owns w W _ := hW ▸ own
  clear hW
  refine (Add32_any x.next.length 1 W hx (by omega)).mono ?_
  rintro e w1 ⟨rfl, hb1⟩
  have own1 := own.call hb1
  clear own
  obtain ⟨n32, f32, hnf, hfit⟩ : ∃ (n : Int) (f : Bool), (if x.next.length + 1 < 4294967296 then Value.tuple #[.int .u32 ((x.next.length : Int) + ((1 : Nat) : Int)), .bool true] else .tuple #[.int .u32 0, .bool false]) = Value.tuple #[.int .u32 n, .bool f]
      ∧ (x.next.length + 1 < 4294967296 → n = ((x.next.length + 1 : Nat) : Int) ∧ f = true) := by
    by_cases h : x.next.length + 1 < 4294967296
    · rw [if_pos h]; exact ⟨_, _, rfl, fun _ => ⟨by omega, rfl⟩⟩
    · rw [if_neg h]; exact ⟨_, _, rfl, fun h' => absurd h' h⟩
  rw [hnf]
  clear hnf
  obtain ⟨-, lt0, row0, fr0⟩ := own1.at1
  obtain ⟨-, lt1, row1, fr1⟩ := own1.at2
  go_wp2_with fail
  refine (Turns_any b.frm b.to _ hf ht).mono ?_
  rintro e w2 ⟨rfl, hb2⟩
  have own2 := own1.call hb2
  clear lt0 row0 fr0 lt1 row1 fr1 own1
  obtain ⟨-, lt0, row0, fr0⟩ := own2.at1
  obtain ⟨-, lt1, row1, fr1⟩ := own2.at2
  rcases hy with ⟨h2, hy⟩ | ⟨h2, h3, hy⟩
  · clear hfit
    go_wp2_with fail
    refine (turn_any x b w.heap.size w2 lt0 row0 fr0).mono ?_
    rintro e w3 ⟨rfl, hk3, row3⟩
    have own3 := own2.put (Nat.le_refl _) lt0 hk3 row3
    rw [← hy ()] at own3
    simp only [List.map_cons, List.map_nil, if_true, if_neg (show ¬ w.heap.size + 1 = w.heap.size by omega), if_neg (show ¬ w.heap.size + 2 = w.heap.size by omega)] at own3
    clear own2 lt0 row0 fr0 lt1 row1 fr1 hk3 row3
    obtain ⟨-, lt0, row0, fr0⟩ := own3.at1
    obtain ⟨-, lt1, row1, fr1⟩ := own3.at2
    go_wp2_with fail
    have hV' := hV ()
    unfold folEnd at hV'
    clear hV
    refine (Locking_any b.to _ ht).mono ?_
    rintro e w4 ⟨rfl, hb4⟩
    have own4 := own3.call hb4
    clear lt0 row0 fr0 lt1 row1 fr1 own3
    obtain ⟨-, lt0, row0, fr0⟩ := own4.at1
    obtain ⟨-, lt1, row1, fr1⟩ := own4.at2
    by_cases hl : locking b.to = true
    · rw [if_pos hl] at hV'
      replace hV' : ∀ _ : Unit, _ := fun _ => hV'
      go_wp2_with fail
      refine (lock_any y b w.heap.size w4 (hk.below own4.below) lt0 row0 fr0).mono ?_
      rintro e w5 ⟨rfl, hk5, row5⟩
      have own5 := own4.put (Nat.le_refl _) lt0 hk5 row5
      simp only [List.map_cons, List.map_nil, if_true, if_neg (show ¬ w.heap.size + 1 = w.heap.size by omega), if_neg (show ¬ w.heap.size + 2 = w.heap.size by omega)] at own5
      clear own4 lt0 row0 fr0 lt1 row1 fr1 hk5 row5
      obtain ⟨-, lt0, row0, fr0⟩ := own5.at1
      obtain ⟨-, lt2, row2, fr2⟩ := own5.at3
      go_wp2_with fail
      exact ret_cell_tmp rfl rfl rfl (rWPr _ _ _ (by rw [rowD_setCells_same, row2, all_pr])) ⟨by rw [hV' ()]; rfl, below_setCells _ (by omega) _ _ _ _ own5.below⟩
    · rw [if_neg hl] at hV'
      replace hV' : ∀ _ : Unit, _ := fun _ => hV'
      obtain ⟨-, lt2, row2, fr2⟩ := own4.at3
      go_wp2_with fail
      exact ret_cell_tmp rfl rfl rfl (rWPr _ _ _ (by rw [rowD_setCells_same, row2, all_pr])) ⟨by rw [hV' ()]; rfl, below_setCells _ (by omega) _ _ _ _ own4.below⟩
  · obtain ⟨rfl, rfl⟩ := hfit h3
    go_wp2_with fail
    have own3 := own2.setCell w.heap.size 257 (.int .u32 ((x.next.length + 1 : Nat) : Int)) (Nat.le_refl _)
    simp only [List.map_cons, List.map_nil, if_true, if_neg (show ¬ w.heap.size + 1 = w.heap.size by omega), if_neg (show ¬ w.heap.size + 2 = w.heap.size by omega), set_pr_next_length] at own3
    rw [← show y = _ from hy ()] at own3
    rw [show ((x.next.length + 1 : Nat) : Int) = (x.next.length : Int) + 1 from rfl] at own3
    generalize World.setCell w2 _ _ = w3 at own3 ⊢
    clear own2 lt0 row0 fr0 lt1 row1 fr1
    obtain ⟨-, lt0, row0, fr0⟩ := own3.at1
    obtain ⟨-, lt1, row1, fr1⟩ := own3.at2
    have hV' := hV ()
    unfold folEnd at hV'
    clear hV
    refine (Locking_any b.to _ ht).mono ?_
    rintro e w4 ⟨rfl, hb4⟩
    have own4 := own3.call hb4
    clear lt0 row0 fr0 lt1 row1 fr1 own3
    obtain ⟨-, lt0, row0, fr0⟩ := own4.at1
    obtain ⟨-, lt1, row1, fr1⟩ := own4.at2
    by_cases hl : locking b.to = true
    · rw [if_pos hl] at hV'
      replace hV' : ∀ _ : Unit, _ := fun _ => hV'
      go_wp2_with fail
      refine (lock_any y b w.heap.size w4 (hk.below own4.below) lt0 row0 fr0).mono ?_
      rintro e w5 ⟨rfl, hk5, row5⟩
      have own5 := own4.put (Nat.le_refl _) lt0 hk5 row5
      simp only [List.map_cons, List.map_nil, if_true, if_neg (show ¬ w.heap.size + 1 = w.heap.size by omega), if_neg (show ¬ w.heap.size + 2 = w.heap.size by omega)] at own5
      clear own4 lt0 row0 fr0 lt1 row1 fr1 hk5 row5
      obtain ⟨-, lt0, row0, fr0⟩ := own5.at1
      obtain ⟨-, lt2, row2, fr2⟩ := own5.at3
      go_wp2_with fail
      exact ret_cell_tmp rfl rfl rfl (rWPr _ _ _ (by rw [rowD_setCells_same, row2, all_pr])) ⟨by rw [hV' ()]; rfl, below_setCells _ (by omega) _ _ _ _ own5.below⟩
    · rw [if_neg hl] at hV'
      replace hV' : ∀ _ : Unit, _ := fun _ => hV'
      obtain ⟨-, lt2, row2, fr2⟩ := own4.at3
      go_wp2_with fail
      exact ret_cell_tmp rfl rfl rfl (rWPr _ _ _ (by rw [rowD_setCells_same, row2, all_pr])) ⟨by rw [hV' ()]; rfl, below_setCells _ (by omega) _ _ _ _ own4.below⟩
set_option maxRecDepth 20000 in
set_option maxHeartbeats 1000000 in
theorem Follow_any (x : Pr) (b : Eb) (w : World) (hk : Keyed w) (hf : b.frm < 4294967296) (ht : b.to < 4294967296) (hx : x.next.length < 4294967296) :
    Calls Tryd.prog 63 #[.agg (encPr x), .agg (encEb b)] w fun e w' =>
      e = .returned (.tuple #[.agg (encPr (Go.Alm.follow x b.frm b.to b.prev b.ledger b.draw).1), .int .i64 ((Go.Alm.follow x b.frm b.to b.prev b.ledger b.draw).2 : Nat)]) ∧ Below w.heap.size w w' := by
  by_cases h1 : b.to ≤ b.frm
  · rw [follow_early h1]
    generalize hV : Value.tuple _ = V
    replace hV := hV.symm
    go_enter Tryd.func63, Tryd.ntmps63
    go_wp2_with fail
    generalize hW : World.alloc (World.alloc (World.alloc w _) _) _ = W
    have own := own_three w (encPr x) (encEb b) (encPr pair0) 33 121 33
    replace own : Owns w W _ := hW ▸ own
    exact ret_cell_tmp rfl rfl rfl (rWPr _ _ _ own.at3.2.2.1) ⟨by first | rfl | (rw [hV]; rfl), own.below⟩
  by_cases h2 : epochOf b.frm < epochOf b.to
  · rw [follow_turn h1 h2]
    exact Follow_late x _ b w hk hf ht hx h1 (.inl ⟨h2, fun _ => rfl⟩)
  by_cases h3 : x.next.length + 1 < 4294967296
  · rw [follow_on h1 h2 h3]
    exact Follow_late x _ b w hk hf ht hx h1 (.inr ⟨h2, h3, fun _ => rfl⟩)
  rw [follow_over h1 h2 h3]
  generalize hV : Value.tuple _ = V
  replace hV := hV.symm
  go_enter Tryd.func63, Tryd.ntmps63
  go_wp2_with fail
  generalize hW : World.alloc (World.alloc (World.alloc w _) _) _ = W
  have own := own_three w (encPr x) (encEb b) (encPr pair0) 33 121 33
  replace own : Owns w W _ := hW ▸ own
  clear hW
  refine (Add32_any x.next.length 1 W hx (by omega)).mono ?_
  rintro e w1 ⟨rfl, hb1⟩
  have own1 := own.call hb1
  clear own
  rw [if_neg h3]
  obtain ⟨-, lt0, row0, fr0⟩ := own1.at1
  obtain ⟨-, lt1, row1, fr1⟩ := own1.at2
  go_wp2_with fail
  refine (Turns_any b.frm b.to _ hf ht).mono ?_
  rintro e w2 ⟨rfl, hb2⟩
  have own2 := own1.call hb2
  clear lt0 row0 fr0 lt1 row1 fr1 own1
  obtain ⟨-, lt0, row0, fr0⟩ := own2.at1
  obtain ⟨-, lt1, row1, fr1⟩ := own2.at2
  obtain ⟨-, lt2, row2, fr2⟩ := own2.at3
  go_wp2_with fail
  exact ret_cell_tmp rfl rfl rfl (rWPr _ _ _ (by rw [rowD_setCells_same, row2, all_pr])) ⟨by first | rfl | (rw [hV]; rfl), below_setCells _ (by omega) _ _ _ _ own2.below⟩
end Go.Proofs.YtpoaakdljpdkfaaDoor

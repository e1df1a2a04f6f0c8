/- THE WALK OF link.Follows. -/
import Derived.Test.YtpoaakdljpdkfaaDoorC27
import Derived.Test.YtpoaakdljpdkfaaDoorC16
set_option linter.unusedSimpArgs false
set_option linter.unusedVariables false
namespace Go.Alm
/-- whether a state is another one's child, or why not -/
def follows (p c : St) : Nat := let r := child p ⟨c.slot, c.ledger, c.draw⟩; if r.2 = 0 ∧ r.1 ≠ c then 7 else r.2
end Go.Alm
namespace Go.Proofs.YtpoaakdljpdkfaaDoor
open Go.RowKit Go.Alm
set_option maxRecDepth 20000 in
set_option maxHeartbeats 2000000 in
theorem LFollows_any (p c : St) (w : World) (hk : Keyed w) (hp : p.Wf) (hc : c.slot < 4294967296) :
    Calls Tryd.prog 27 #[.agg (encSt p), .agg (encSt c)] w fun e w' => e = .returned (.int .i64 (follows p c : Nat)) ∧ Below w.heap.size w w' := by
  go_enter Tryd.func27, Tryd.ntmps27
  go_wp2_with fail
  generalize hW : World.alloc (World.alloc w _) _ = W
  have own : Owns w W [(w.heap.size, encSt p), (w.heap.size + 1, encSt c)] := hW ▸ own_two w _ _ _ _
  clear hW
  obtain ⟨-, lt0, row0, -⟩ := own.at1
  obtain ⟨-, lt1, row1, -⟩ := own.at2
  go_wp2_with fail
  refine (Child_any p ⟨c.slot, c.ledger, c.draw⟩ _ (hk.below own.below) hp hc).mono ?_
  rintro e w1 ⟨rfl, hb1⟩
  have own1 := own.call hb1
  clear own lt0 row0 lt1 row1
  have hf : ∀ _ : Unit, follows p c = (if (child p ⟨c.slot, c.ledger, c.draw⟩).2 = 0 ∧ (child p ⟨c.slot, c.ledger, c.draw⟩).1 ≠ c then 7 else (child p ⟨c.slot, c.ledger, c.draw⟩).2) := fun _ => rfl
  generalize child p ⟨c.slot, c.ledger, c.draw⟩ = r at hf ⊢
  obtain ⟨d, e⟩ := r
  simp only at hf ⊢
  obtain ⟨-, lt0, row0, -⟩ := own1.at1
  obtain ⟨-, lt1, row1, -⟩ := own1.at2
  by_cases he : e = 0
  · by_cases hd : d = c
    · have h : ∀ _ : Unit, follows p c = 0 := fun _ => by rw [hf (), if_neg (by simp [hd])]; exact he
      clear hf
      subst he
      have f2 : decide (d = c) = true := by simp [hd]
      have f1 : (!decide (d = c)) = false := by simp [hd]
      go_wp2_with fail
      go_ret
      exact ⟨by rw [h ()]; rfl, own1.below.alloc own1.below.size _⟩
    · have h : ∀ _ : Unit, follows p c = 7 := fun _ => by rw [hf (), if_pos ⟨he, hd⟩]
      clear hf
      subst he
      have f2 : decide (d = c) = false := by simp [hd]
      have f1 : (!decide (d = c)) = true := by simp [hd]
      go_wp2_with fail
      go_ret
      exact ⟨by rw [h ()]; rfl, own1.below.alloc own1.below.size _⟩
  · have h : ∀ _ : Unit, follows p c = e := fun _ => by rw [hf (), if_neg (by simp [he])]
    clear hf
    have he' : ((e : Int) == 0) = false := by simpa using he
    go_wp2_with fail
    go_ret
    exact ⟨by rw [h ()]; rfl, own1.below.alloc own1.below.size _⟩
end Go.Proofs.YtpoaakdljpdkfaaDoor

/- WHAT THE CALLS OF GrowRight's awake COME TO, PURELY. -/
import Derived.Test.YtpoaakdljpdkfaaDoorWf
import Derived.KernelRfl
set_option linter.unusedVariables false
namespace Go.Alm
/-- a digest whose first byte is n -/
def hOne (n : Nat) (h : n < 256) : H32 := ⟨n :: List.replicate 31 0, by simp, by
  intro x hx
  rcases List.mem_cons.1 hx with h1 | h1
  · omega
  · rw [List.eq_of_mem_replicate h1]; omega⟩
def h1 : H32 := hOne 1 (by omega)
def h7 : H32 := hOne 7 (by omega)
def aw10 : List Bk := [⟨3, zeroH, zeroH⟩, ⟨30, zeroH, zeroH⟩, ⟨50, zeroH, h7⟩]
theorem chainFrom_wf : ∀ (l : List Bk) (s : St) (k : Nat), s.Wf → (∀ b ∈ l, b.slot < 4294967296) → (chainFrom s l k).1.Wf
  | [], s, k, h, _ => h
  | b :: l, s, k, h, hb => by
    unfold chainFrom
    simp only
    split
    · exact h
    · exact chainFrom_wf l _ _ (child_wf h (hb b (by simp))) (fun c hc => hb c (by simp [hc]))
theorem aw10_2 : (chain h1 aw10).2 = (3, 0) := by kernel_rfl
theorem aw10_slot : (chain h1 aw10).1.slot = 50 := by kernel_rfl
theorem aw10_length : (chain h1 aw10).1.length = 4 := by kernel_rfl
theorem aw10_count : (chain h1 aw10).1.count = 2 := by kernel_rfl
theorem aw10_draw : (chain h1 aw10).1.draw = h7 := by kernel_rfl
theorem aw10_right : right (chain h1 aw10).1 = true := by kernel_rfl
theorem aw10_bad : child (chain h1 aw10).1 ⟨50, zeroH, zeroH⟩ = (state0, 6) := by unfold child; rw [if_pos (by rw [aw10_slot]; exact Nat.le_refl _)]
theorem aw10_child : (child (genesis h1) ⟨3, zeroH, zeroH⟩).2 = 0 := by kernel_rfl
theorem aw10_prev : (child (genesis h1) ⟨3, zeroH, zeroH⟩).1.prev = hashOf (genesis h1) := by kernel_rfl
end Go.Alm

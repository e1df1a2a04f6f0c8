/- THE WALKS OF grow: more, first, Child. -/
import Derived.Test.YtpoaakdljpdkfaaDoorC23
set_option linter.unusedSimpArgs false
set_option linter.unusedVariables false
namespace Go.Proofs.YtpoaakdljpdkfaaDoor
open Go.RowKit Go.Alm
theorem more32_any (a b : Nat) (w : World) (h0 : a < 4294967296) (h1 : b < 4294967296) :
    Calls Tryd.prog 61 #[.int .u32 a, .int .u32 b] w fun e w' => e = .returned (if a + b < 4294967296 then .tuple #[.int .u32 ((a : Int) + (b : Int)), .int .i64 0] else .tuple #[.int .u32 0, .int .i64 5]) ∧ Below w.heap.size w w' := by
  by_cases h : a + b < 4294967296
  · rw [if_pos h]
    go_enter Tryd.func61, Tryd.ntmps61
    go_wp2_with fail
    refine (Add32_any a b _ h0 h1).mono ?_
    rintro e w1 ⟨rfl, hb1⟩
    rw [if_pos h]
    go_wp2_with fail
    go_ret2
    exact ⟨rfl, hb1⟩
  · rw [if_neg h]
    go_enter Tryd.func61, Tryd.ntmps61
    go_wp2_with fail
    refine (Add32_any a b _ h0 h1).mono ?_
    rintro e w1 ⟨rfl, hb1⟩
    rw [if_neg h]
    go_wp2_with fail
    go_ret2
    exact ⟨rfl, hb1⟩
/-- the first error of four -/
def first4 (a b c d : Nat) : Nat := if a ≠ 0 then a else if b ≠ 0 then b else if c ≠ 0 then c else d
theorem first4_any (a b c d s cap : Nat) (w : World) (hs : w.rowD s = #[.int .i64 (a : Int), .int .i64 (b : Int), .int .i64 (c : Int), .int .i64 (d : Int)]) (hlt : s < w.heap.size) :
    Calls Tryd.prog 64 #[.slice (some ⟨s, 0, none⟩) 4 cap] w fun e w' => e = .returned (.int .i64 (first4 a b c d : Nat)) ∧ Below w.heap.size w w' := by
  generalize hV : Value.int .i64 (first4 a b c d : Nat) = V
  go_enter Tryd.func64, Tryd.ntmps64
  go_wp2_with fail
  refine wp_loop_rounds 5 ?_
  have nz : ∀ n : Nat, n ≠ 0 → ((n : Int) != 0) = true := fun n h => by simpa using h
  by_cases ha : a = 0
  rotate_left
  · have := nz a ha
    rw [rounds_succ]; go_wp2_with fail
    go_ret
    exact ⟨by rw [← hV, first4, if_pos ha]; rfl, Below.refl _ _⟩
  subst ha
  by_cases hb : b = 0
  rotate_left
  · have := nz b hb
    rw [rounds_succ]; go_wp2_with fail
    rw [rounds_succ]; go_wp2_with fail
    go_ret
    exact ⟨by rw [← hV, first4, if_neg (by simp), if_pos hb]; rfl, Below.refl _ _⟩
  subst hb
  by_cases hc : c = 0
  rotate_left
  · have := nz c hc
    rw [rounds_succ]; go_wp2_with fail
    rw [rounds_succ]; go_wp2_with fail
    rw [rounds_succ]; go_wp2_with fail
    go_ret
    exact ⟨by rw [← hV, first4, if_neg (by simp), if_neg (by simp), if_pos hc]; rfl, Below.refl _ _⟩
  subst hc
  by_cases hd : d = 0
  rotate_left
  · have := nz d hd
    rw [rounds_succ]; go_wp2_with fail
    rw [rounds_succ]; go_wp2_with fail
    rw [rounds_succ]; go_wp2_with fail
    rw [rounds_succ]; go_wp2_with fail
    go_ret
    exact ⟨by rw [← hV, first4, if_neg (by simp), if_neg (by simp), if_neg (by simp)]; rfl, Below.refl _ _⟩
  subst hd
  rw [rounds_succ]; go_wp2_with fail
  rw [rounds_succ]; go_wp2_with fail
  rw [rounds_succ]; go_wp2_with fail
  rw [rounds_succ]; go_wp2_with fail
  rw [rounds_succ]; go_wp2_with fail
  go_ret
  exact ⟨by rw [← hV]; rfl, Below.refl _ _⟩
end Go.Proofs.YtpoaakdljpdkfaaDoor

/- THE WALKS OF num, slot AND ring: what each of these functions answers. -/
import Derived.Test.YtpoaakdljpdkfaaDoorTy
import Derived.Test.YtpoaakdljpdkfaaDoorSpec
set_option linter.unusedSimpArgs false
set_option linter.unusedVariables false
namespace Go.Proofs.YtpoaakdljpdkfaaDoor
open Go.RowKit Go.Alm

theorem parts_any (n b : Nat) (w : World) (h0 : n < 4294967296) (h1 : 0 < b) (h2 : b < 4294967296) :
    Calls Tryd.prog 92 #[.int .u32 n, .int .u32 b] w fun e w' => e = .returned (.tuple #[.int .u32 (n / b : Nat), .int .u32 (n % b : Nat)]) ∧ Below w.heap.size w w' := by
  have h3 : ¬ (b : Int) = 0 := by omega
  have h4 : ((n / b : Nat) : Int) < 4294967296 := by have := Nat.div_le_self n b; omega
  go_enter Tryd.func92, Tryd.ntmps92
  go_wp2
  go_quiet (fail)
  go_wp2
  go_ret2
  refine ⟨?_, below_drewN _ _⟩
  have e1 : (n : Int) / (b : Int) % 4294967296 = ((n / b : Nat) : Int) := by rw [← Int.natCast_ediv, Int.emod_eq_of_lt (Int.natCast_nonneg _) h4]
  have e2 : (n : Int) % (b : Int) = ((n % b : Nat) : Int) := by rw [← Int.natCast_emod]
  simp only [Array.getD_eq_getD_getElem?, List.getElem?_toArray, List.getElem?_cons_succ, List.getElem?_cons_zero, Option.getD_some, e1, e2]

theorem Epoch_any (n : Nat) (w : World) (h0 : n < 4294967296) :
    Calls Tryd.prog 58 #[.int .u32 n] w fun e w' => e = .returned (.int .u32 (epochOf n : Nat)) ∧ Below w.heap.size w w' := by
  go_enter Tryd.func58, Tryd.ntmps58
  go_wp2_with fail
  refine (parts_any n 24 _ h0 (by omega) (by omega)).mono ?_
  rintro e w1 ⟨rfl, hb⟩
  go_wp2
  go_ret
  exact ⟨rfl, hb⟩

theorem Place_any (n : Nat) (w : World) (h0 : n < 4294967296) :
    Calls Tryd.prog 59 #[.int .u32 n] w fun e w' => e = .returned (.int .u32 (placeOf n : Nat)) ∧ Below w.heap.size w w' := by
  go_enter Tryd.func59, Tryd.ntmps59
  go_wp2_with fail
  refine (parts_any n 24 _ h0 (by omega) (by omega)).mono ?_
  rintro e w1 ⟨rfl, hb⟩
  go_wp2
  go_ret
  exact ⟨rfl, hb⟩
theorem Sub_any (n : Nat) (w : World) (h0 : n < 4294967296) :
    Calls Tryd.prog 57 #[.int .u32 n] w fun e w' => e = .returned (.int .u32 (subOf n : Nat)) ∧ Below w.heap.size w w' := by
  go_enter Tryd.func57, Tryd.ntmps57
  go_wp2_with fail
  refine (parts_any n 3 _ h0 (by omega) (by omega)).mono ?_
  rintro e w1 ⟨rfl, hb⟩
  go_wp2
  go_ret
  exact ⟨rfl, hb⟩
theorem Ring_any (n : Nat) (w : World) (h0 : n < 4294967296) :
    Calls Tryd.prog 117 #[.int .u32 n] w fun e w' => e = .returned (.int .i64 (n % 4 : Nat)) ∧ Below w.heap.size w w' := by
  go_enter Tryd.func117, Tryd.ntmps117
  go_wp2_with fail
  refine (parts_any n 4 _ h0 (by omega) (by omega)).mono ?_
  rintro e w1 ⟨rfl, hb⟩
  go_wp2
  go_ret
  exact ⟨by rw [show ((n % 4 : Nat) : Int) = (n : Int) % 4 by omega]; rfl, hb⟩
theorem Locking_any (n : Nat) (w : World) (h0 : n < 4294967296) :
    Calls Tryd.prog 97 #[.int .u32 n] w fun e w' => e = .returned (.bool (locking n)) ∧ Below w.heap.size w w' := by
  go_enter Tryd.func97, Tryd.ntmps97
  go_wp2_with fail
  refine (Place_any n _ h0).mono ?_
  rintro e w1 ⟨rfl, hb⟩
  go_wp2
  go_ret
  refine ⟨?_, hb⟩
  congr 2
  unfold locking
  simp
  omega
theorem Turns_any (a b : Nat) (w : World) (h0 : a < 4294967296) (h1 : b < 4294967296) :
    Calls Tryd.prog 60 #[.int .u32 a, .int .u32 b] w fun e w' => e = .returned (.bool (decide (epochOf a < epochOf b))) ∧ Below w.heap.size w w' := by
  go_enter Tryd.func60, Tryd.ntmps60
  go_wp2_with fail
  refine (Epoch_any _ _ h1).mono ?_
  rintro e w1 ⟨rfl, hb⟩
  go_wp2_with fail
  refine (Epoch_any _ _ h0).mono ?_
  rintro e w2 ⟨rfl, hb2⟩
  go_wp2
  go_ret
  refine ⟨?_, hb.trans (hb2.mono hb.size)⟩
  congr 2
theorem Split_any (n : Nat) (w : World) (h0 : n < 18446744073709551616) :
    Calls Tryd.prog 158 #[.int .u64 n] w fun e w' => e = .returned (.tuple #[.int .u32 (n / 4294967296 : Nat), .int .u32 (n % 4294967296 : Nat)]) ∧ Below w.heap.size w w' := by
  go_enter Tryd.func158, Tryd.ntmps158
  go_wp2_with fail
  go_ret2
  refine ⟨?_, Below.refl _ _⟩
  simp only [Array.getD_eq_getD_getElem?, List.getElem?_toArray, List.getElem?_cons_succ, List.getElem?_cons_zero, Option.getD_some, Int.natCast_ediv, Int.natCast_emod]
  rfl
theorem Narrow_any (n : Nat) (w : World) (h0 : n < 18446744073709551616) :
    Calls Tryd.prog 147 #[.int .u64 n] w fun e w' => e = .returned (if n < 4294967296 then .tuple #[.int .u32 n, .bool true] else .tuple #[.int .u32 0, .bool false]) ∧ Below w.heap.size w w' := by
  generalize hv : (if n < 4294967296 then Value.tuple #[.int .u32 n, .bool true] else .tuple #[.int .u32 0, .bool false]) = V
  replace hv := hv.symm
  go_enter Tryd.func147, Tryd.ntmps147
  go_wp2_with fail
  refine (Split_any n _ h0).mono ?_
  rintro e w1 ⟨rfl, hb⟩
  by_cases h : n < 4294967296
  · rw [if_pos h] at hv
    have e1 : ((n / 4294967296 : Nat) : Int) = 0 := by omega
    have e2 : ((n % 4294967296 : Nat) : Int) = n := by omega
    rw [e1, e2]
    go_wp2
    go_ret2
    exact ⟨congrArg _ hv.symm, hb⟩
  · rw [if_neg h] at hv
    have e1 : ¬ ((n / 4294967296 : Nat) : Int) = 0 := by omega
    go_wp2
    go_ret2
    exact ⟨congrArg _ hv.symm, hb⟩
theorem fits_two (a b : Nat) (p : Nat) (w : World) (h0 : a < 4294967296) (h1 : b < 4294967296) (c0 : w.rowD p = #[.int .u64 a, .int .u64 b]) :
    Calls Tryd.prog 118 #[.slice (some ⟨p, 0, none⟩) 2 2] w fun e w' => e = .returned (if a + b < 4294967296 then .tuple #[.int .u32 ((a : Int) + (b : Int)), .bool true] else .tuple #[.int .u32 0, .bool false]) ∧ Below w.heap.size w w' := by
  generalize hv : (if a + b < 4294967296 then Value.tuple #[.int .u32 ((a : Int) + (b : Int)), .bool true] else .tuple #[.int .u32 0, .bool false]) = V
  replace hv := hv.symm
  go_enter Tryd.func118, Tryd.ntmps118
  go_wp2_with fail
  refine wp_loop_rounds 3 ?_
  rw [rounds_succ]; go_wp2_with fail
  rw [rounds_succ]; go_wp2_with fail
  rw [rounds_succ]; go_wp2_with fail
  have hN := fun w => Narrow_any (a + b) w (by omega)
  rw [Int.natCast_add] at hN
  refine (hN _).mono ?_
  rintro e w1 ⟨rfl, hb⟩
  by_cases h : a + b < 4294967296
  · rw [if_pos h] at hv ⊢
    go_wp2
    go_ret2
    exact ⟨congrArg _ hv.symm, hb⟩
  · rw [if_neg h] at hv ⊢
    go_wp2
    go_ret2
    exact ⟨congrArg _ hv.symm, hb⟩
theorem Add32_any (a b : Nat) (w : World) (h0 : a < 4294967296) (h1 : b < 4294967296) :
    Calls Tryd.prog 93 #[.int .u32 a, .int .u32 b] w fun e w' => e = .returned (if a + b < 4294967296 then .tuple #[.int .u32 ((a : Int) + (b : Int)), .bool true] else .tuple #[.int .u32 0, .bool false]) ∧ Below w.heap.size w w' := by
  generalize hv : (if a + b < 4294967296 then Value.tuple #[.int .u32 ((a : Int) + (b : Int)), .bool true] else .tuple #[.int .u32 0, .bool false]) = V
  replace hv := hv.symm
  go_enter Tryd.func93, Tryd.ntmps93
  go_wp2_with fail
  have hb0 : Below w.heap.size w (w.alloc (.cells #[Value.int .u64 a, Value.int .u64 b] 184)) := (Below.refl _ _).alloc (Nat.le_refl _) _
  refine (fits_two a b w.heap.size _ h0 h1 (rowD_al _ _ _ rfl)).mono ?_
  rintro e w1 ⟨rfl, hb⟩
  have hb1 := hb0.trans (hb.mono hb0.size)
  by_cases h : a + b < 4294967296
  · rw [if_pos h] at hv ⊢
    go_wp2
    go_ret2
    exact ⟨congrArg _ hv.symm, hb1⟩
  · rw [if_neg h] at hv ⊢
    go_wp2
    go_ret2
    exact ⟨congrArg _ hv.symm, hb1⟩
end Go.Proofs.YtpoaakdljpdkfaaDoor

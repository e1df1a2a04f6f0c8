/- THE WALKS OF sha: the small ones. -/
import Derived.Test.YtpoaakdljpdkfaaDoorMem
import Derived.Test.YtpoaakdljpdkfaaDoorC1
import Derived.Laws.BitsLemmas
import Derived.Laws.Shifts
set_option linter.unusedSimpArgs false
set_option linter.unusedVariables false
namespace Go.Proofs.YtpoaakdljpdkfaaDoor
open Go.RowKit Go.Alm

theorem and31 (k : Nat) (h : k < 32) : bits .and .i64 (k : Int) 31 = (k : Int) := by
  have : ∀ k : Fin 32, bits .and .i64 (k.val : Int) 31 = (k.val : Int) := by decide
  exact this ⟨k, h⟩

theorem wraps_u32 (n : Int) (h₀ : 0 ≤ n) (h₁ : n < 2 ^ 32) : IntKind.u32.wrap n = n := by
  simp only [IntKind.wrap, IntKind.bits, IntKind.signed]
  simp
  omega
theorem and32 (a b : Nat) (ha : a < 4294967296) (hb : b < 4294967296) : bits .and .u32 (a : Int) (b : Int) = ((a &&& b : Nat) : Int) := (bits_nat .u32 32 (by decide) wraps_u32 a b ha hb).1
theorem or32 (a b : Nat) (ha : a < 4294967296) (hb : b < 4294967296) : bits .or .u32 (a : Int) (b : Int) = ((a ||| b : Nat) : Int) := (bits_nat .u32 32 (by decide) wraps_u32 a b ha hb).2
theorem xor32 (a b : Nat) (ha : a < 4294967296) (hb : b < 4294967296) : bits .xor .u32 (a : Int) (b : Int) = ((a ^^^ b : Nat) : Int) := by
  have hx : a ^^^ b < 2 ^ 32 := Nat.xor_lt_two_pow (by omega) (by omega)
  have h1 : (BitVec.ofInt 32 (a : Int)).toNat = a := by
    rw [BitVec.ofInt_natCast, BitVec.toNat_ofNat]; exact Nat.mod_eq_of_lt (by omega)
  have h2 : (BitVec.ofInt 32 (b : Int)).toNat = b := by
    rw [BitVec.ofInt_natCast, BitVec.toNat_ofNat]; exact Nat.mod_eq_of_lt (by omega)
  show IntKind.u32.wrap ((BitVec.ofInt 32 (a : Int) ^^^ BitVec.ofInt 32 (b : Int)).toNat : Int) = _
  rw [BitVec.toNat_xor, h1, h2]
  exact wraps_u32 _ (Int.natCast_nonneg _) (by exact_mod_cast hx)
theorem rotr_lt (x k : Nat) (hx : x < 4294967296) : rotr x k < 4294967296 := by
  unfold rotr
  exact Nat.or_lt_two_pow (n := 32) (Nat.lt_of_le_of_lt (Nat.div_le_self _ _) hx) (Nat.mod_lt _ (by decide))
theorem sig_lt (x a b c : Nat) (hx : x < 4294967296) : sig x a b c < 4294967296 :=
  Nat.xor_lt_two_pow (n := 32) (Nat.xor_lt_two_pow (n := 32) (rotr_lt x a hx) (rotr_lt x b hx)) (rotr_lt x c hx)
theorem shf_lt (x a b c : Nat) (hx : x < 4294967296) : shf x a b c < 4294967296 :=
  Nat.xor_lt_two_pow (n := 32) (Nat.xor_lt_two_pow (n := 32) (rotr_lt x a hx) (rotr_lt x b hx)) (Nat.lt_of_le_of_lt (Nat.div_le_self _ _) hx)

theorem Turn_any (x k : Nat) (w : World) (hx : x < 4294967296) (h0 : 0 < k) (h1 : k < 32) :
    Calls Tryd.prog 164 #[.int .u32 x, .int .i64 k] w fun e w' => e = .returned (.int .u32 (rotr x k : Nat)) ∧ Below w.heap.size w w' := by
  have e1 := and31 k h1
  have e2 := and31 (32 - k) (by omega)
  have e3 : ((32 - k : Nat) : Int) = 32 - (k : Int) := by omega
  rw [e3] at e2
  go_enter Tryd.func164, Tryd.ntmps164
  go_wp2_with fail
  go_quiet (fail)
  go_wp2
  go_ret
  refine ⟨?_, below_drewN _ _⟩
  have e4 := or32 (x / 2 ^ k) (x * 2 ^ (32 - k) % 4294967296) (Nat.lt_of_le_of_lt (Nat.div_le_self _ _) hx) (Nat.mod_lt _ (by decide))
  simp only [Int.natCast_ediv, Int.natCast_emod, Int.natCast_mul, Int.natCast_pow, Int.cast_ofNat_Int] at e4
  show Ending.returned (.int .u32 _) = _
  rw [e4]
  rfl
theorem turned_any (x a b c : Nat) (w : World) (hx : x < 4294967296) (a0 : 0 < a) (a1 : a < 32) (b0 : 0 < b) (b1 : b < 32) (c0 : 0 < c) (c1 : c < 32) :
    Calls Tryd.prog 160 #[.int .u32 x, .int .i64 a, .int .i64 b, .int .i64 c] w fun e w' => e = .returned (.int .u32 (sig x a b c : Nat)) ∧ Below w.heap.size w w' := by
  have e1 := xor32 (rotr x a) (rotr x b) (rotr_lt x a hx) (rotr_lt x b hx)
  have e2 := xor32 (rotr x a ^^^ rotr x b) (rotr x c) (Nat.xor_lt_two_pow (n := 32) (rotr_lt x a hx) (rotr_lt x b hx)) (rotr_lt x c hx)
  go_enter Tryd.func160, Tryd.ntmps160
  go_wp2_with fail
  refine (Turn_any x a _ hx a0 a1).mono ?_
  rintro e w1 ⟨rfl, hb1⟩
  go_wp2_with fail
  refine (Turn_any x b _ hx b0 b1).mono ?_
  rintro e w2 ⟨rfl, hb2⟩
  go_wp2_with fail
  refine (Turn_any x c _ hx c0 c1).mono ?_
  rintro e w3 ⟨rfl, hb3⟩
  go_wp2_with fail
  go_ret
  have hb4 := hb1.trans (hb2.mono hb1.size)
  exact ⟨rfl, hb4.trans (hb3.mono hb4.size)⟩
set_option maxRecDepth 20000 in
theorem shifted_any (x a b c : Nat) (w : World) (hx : x < 4294967296) (a0 : 0 < a) (a1 : a < 32) (b0 : 0 < b) (b1 : b < 32) (c0 : 0 < c) (c1 : c < 32) :
    Calls Tryd.prog 163 #[.int .u32 x, .int .i64 a, .int .i64 b, .int .i64 c] w fun e w' => e = .returned (.int .u32 (shf x a b c : Nat)) ∧ Below w.heap.size w w' := by
  have e1 := xor32 (rotr x a) (rotr x b) (rotr_lt x a hx) (rotr_lt x b hx)
  have e2 := xor32 (rotr x a ^^^ rotr x b) (x / 2 ^ c) (Nat.xor_lt_two_pow (n := 32) (rotr_lt x a hx) (rotr_lt x b hx)) (Nat.lt_of_le_of_lt (Nat.div_le_self _ _) hx)
  simp only [Int.natCast_ediv, Int.natCast_pow, Int.cast_ofNat_Int] at e2
  go_enter Tryd.func163, Tryd.ntmps163
  go_wp2_with fail
  refine wp_region_ext_tail 11 (by kernel_rfl) (by kernel_rfl) ?_
  simp only [List.take_succ_cons, List.take_zero, List.drop_succ_cons, List.drop_zero]
  iterate 2 (refine wpGrow_step (fun K hK => ?_); go_simp; refine hK _ ?_; clear hK K)
  refine wpGrow_step (fun K hK => ?_); go_simp
  apply Exists.intro
  refine ⟨fun _ => Calls.grow_of (Turn_any x a _ hx a0 a1) rfl, hK _ ?_⟩; clear hK K
  iterate 2 (refine wpGrow_step (fun K hK => ?_); go_simp; refine hK _ ?_; clear hK K)
  refine wpGrow_step (fun K hK => ?_); go_simp
  apply Exists.intro
  refine ⟨fun _ => Calls.grow_of (Turn_any x b _ hx b0 b1) rfl, hK _ ?_⟩; clear hK K
  iterate 5 (refine wpGrow_step (fun K hK => ?_); go_simp; refine hK _ ?_; clear hK K)
  refine wpGrow_nil ?_
  intro W1 hb1
  go_wp2_with fail
  go_ret
  refine ⟨?_, hb1⟩
  show Ending.returned (.int .u32 _) = _
  rfl
end Go.Proofs.YtpoaakdljpdkfaaDoor

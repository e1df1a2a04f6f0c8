/- WHAT THE CALLS OF law 13's awake COME TO, PURELY; two digests that differ are reckoned by the kernel. -/
import Derived.Test.YtpoaakdljpdkfaaDoorSpec
import Derived.Test.YtpoaakdljpdkfaaDoorC28
import Derived.KernelRfl
set_option linter.unusedVariables false
namespace Go.Alm
def aw13g : St := genesis h1
def aw13a : St := (child aw13g ⟨3, zeroH, zeroH⟩).1
def aw13b : St := (child aw13g ⟨5, zeroH, h1⟩).1
def aw13f : St := (child aw13g ⟨100, zeroH, zeroH⟩).1
theorem aw13_ea : (child aw13g ⟨3, zeroH, zeroH⟩).2 = 0 := by kernel_rfl
theorem aw13_eb : (child aw13g ⟨5, zeroH, h1⟩).2 = 0 := by kernel_rfl
theorem aw13_ef : (child aw13g ⟨100, zeroH, zeroH⟩).2 = 0 := by kernel_rfl
theorem aw13_gwf : aw13g.Wf := genesis_wf h1
theorem aw13_awf : aw13a.Wf := child_wf aw13_gwf (by decide)
theorem aw13_bwf : aw13b.Wf := child_wf aw13_gwf (by decide)
theorem aw13_fwf : aw13f.Wf := child_wf aw13_gwf (by decide)
theorem aw13_dens : densities aw13a aw13f = (0, 0) := by kernel_rfl
theorem aw13_nab : near aw13a aw13b = true := by kernel_rfl
theorem aw13_naf : near aw13a aw13f = false := by kernel_rfl
theorem aw13_ga : wins aw13g aw13a = true := by kernel_rfl
theorem aw13_ag : wins aw13a aw13g = false := wins_not_both aw13_ga
theorem aw13_ab : wins aw13a aw13b = true := by kernel_rfl
theorem aw13_ba : wins aw13b aw13a = false := wins_not_both aw13_ab
theorem aw13_ne : decide (hashOf aw13a = hashOf aw13f) = false := by kernel_rfl
theorem aw13_af : (wins aw13a aw13f != wins aw13f aw13a) = true := by
  have hne : hashOf aw13a ≠ hashOf aw13f := of_decide_eq_false aw13_ne
  rcases wins_one hne with h | h
  · rw [h, wins_not_both h]; rfl
  · rw [h, wins_not_both h]; rfl
theorem aw13_fold : foldT aw13g [aw13a, aw13b, aw13a] 0 = (aw13b, 2) := by
  simp only [foldT, aw13_ga, aw13_ab, aw13_ba, if_true]
  rfl
end Go.Alm

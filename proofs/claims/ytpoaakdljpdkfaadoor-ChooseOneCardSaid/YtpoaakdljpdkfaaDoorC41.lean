/- THE WALK OF law 13's right. -/
import Derived.Test.YtpoaakdljpdkfaaDoorC40
import Derived.Test.YtpoaakdljpdkfaaDoorC39
set_option linter.unusedSimpArgs false
set_option linter.unusedVariables false
namespace Go.Alm
def AnsR (n : Nat) (e : Ending) : Prop := ∃ b : Bool, e = .returned (.bool b) ∧ (b = true → n ≤ 20)
end Go.Alm
namespace Go.Proofs.YtpoaakdljpdkfaaDoor
open Go.RowKit Go.Alm
set_option maxRecDepth 20000 in
set_option maxHeartbeats 2000000 in
theorem right13_any (l : List St) (ao : Option Addr) (cap : Nat) (w : World) (hl : ∀ s ∈ l, s.Wf) (hlen : l.length ≤ 9223372036854775807) (hs : AtS w ao l.length 363 (encSts l)) :
    Calls Tryd.prog 29 #[.slice ao l.length cap] w fun e w' => AnsR l.length e ∧ Below w.heap.size w w' := by
  go_enter Tryd.func29, Tryd.ntmps29
  go_wp2_with fail
  go_loopw [7] (fun i wr => ∃ k : Nat, k ≤ l.length ∧ i = .int .i64 k ∧ Below w.heap.size w wr)
    (fun i _ => l.length - (intOf i).toNat)
  case atStart => exact ⟨0, Nat.zero_le _, rfl, Below.refl _ _⟩
  case round =>
    obtain ⟨k, hkl, rfl, hbl⟩ := hrel
    by_cases hend : k = l.length
    · subst hend
      go_wp2_with fail
      go_ret
      exact ⟨⟨_, rfl, fun h => by have := of_decide_eq_true h; omega⟩, hbl⟩
    · have hlt : k < l.length := by omega
      obtain ⟨q, o, rfl, hq, hrow⟩ := (hs.resolve_left (by omega))
      obtain ⟨hle, hget⟩ := AtS.get (by omega) encSt (fun b => size_encSt b) l rfl hrow k hlt
      have hqr : q < wr.heap.size := Nat.lt_of_lt_of_le hq hbl.size
      rw [← rowD_congr (hbl.block q hq)] at hle hget
      have hcw := hl _ (List.getElem_mem hlt)
      have hw1 : IntKind.i64.wrap ((k : Int) + 1) = ((k + 1 : Nat) : Int) := by rw [IntKind.wrap_i64]; omega
      generalize l[k] = s at hget hcw
      clear hs hrow
      go_wp2_with fail
      have own4 := (⟨hbl, fun p h => by cases h⟩ : Owns w wr []).alloc (encSt s) 35
      refine (own13_any s _).mono ?_
      rintro e w5 ⟨rfl, hb5⟩
      have own5 := own4.call hb5
      clear own4 hb5 hqr hle hget hbl
      go_wp2_with fail
      refine (R9Right_any s _ hcw).mono ?_
      rintro e w6 ⟨⟨b, rfl⟩, hb6⟩
      have own6 := own5.call hb6
      clear own5 hb6
      cases b
      · go_wp2_with fail
        go_ret
        exact ⟨⟨false, rfl, fun h => by cases h⟩, own6.below⟩
      · go_wp2_with fail
        exact ⟨⟨k + 1, by omega, by go_num, own6.below⟩, by simp [intOf]; omega⟩
end Go.Proofs.YtpoaakdljpdkfaaDoor

/- ChooseOne RETURNS TRUE, WHATEVER THE TWO STATES; both read as they did. Conditions: the ones of the given row (sha.keys is as the program's text lays it). -/
import Derived.Test.YtpoaakdljpdkfaaDoorCd
import Derived.Test.YtpoaakdljpdkfaaDoorDec
import Derived.Test.YtpoaakdljpdkfaaDoorC43
import Derived.Test.YtpoaakdljpdkfaaDoorTie
import Derived.Test.YtpoaakdljpdkfaaDoorCards
import Derived.SevenTiedAt
namespace Go.Proofs.YtpoaakdljpdkfaaDoor
open Go Go.RowKit Go.Alm Go.ChangeShapes Go.WideShapes Go.ChangeAt
set_option maxRecDepth 100000 in
theorem chooseOne_lifted (os : Os) (started : os.Started) (H : Type) (enc : TypeId × Value → H) :
    ReturnsInHanded {} Tryd.checked os 7 .any (fun w args => (Rows.chooseOneSpec.pre enc Tryd.prog Tryd.f7 [] false w args ∧ laidMetH Tryd.prog [("almagest/sha.keys", Rows.laid_almagest_sha_keys)] w) ∧ sizedMet enc Tryd.prog Tryd.f7 (OpenSpec.ofChange Rows.chooseOneSpec) false w args)
      (Rows.chooseOneSpec.post enc Tryd.prog Tryd.f7 false true false false) := by
  refine returnsInHanded_of_change_and (C := Tryd.checked) (X := fun w _ => laidMetH Tryd.prog [("almagest/sha.keys", Rows.laid_almagest_sha_keys)] w) (fun _ _ _ hh h => h.of_heap hh) Tryd.own started (by kernel_rfl) Tryd.func7
    (ChangeSpec.witness_shaped (enc := enc) (C := Tryd.checked) (os := os) (X := fun w _ => laidMetH Tryd.prog [("almagest/sha.keys", Rows.laid_almagest_sha_keys)] w) false (World.doorLaid Tryd.prog 4000 os) #[.agg (encSt state0), .agg (encSt state0)] 8 rfl (World.shaped_of_RefB (by kernel_rfl) (by kernel_rfl)) (by kernel_rfl) (by kernel_rfl) (by kernel_rfl) (door_met1 os _)) ?_
  intro W base args ds gs before hval0 hW _ _ hL _
  have hval : ∀ (j : Nat) t v, Tryd.f7.params[j]? = some t → args[j]? = some v → Value.okWide Tryd.prog W .any base t v := hval0
  have hW' := hW
  obtain ⟨p, q, hA0, hV, rfl, hfz, hnd⟩ := hW
  have hA : DataW.TrodAll enc Tryd.prog W 0 (fun _ => true) true Tryd.f7.params.toList args.toList ds p := hA0
  rw [Tryd.params7] at hA hval
  obtain ⟨v0, v1, d0, d1, p0, p1, rfl, rfl, rfl, h0, h1⟩ := trodAll_two hA
  obtain ⟨rfl, rfl⟩ := trodVars_none hV
  obtain ⟨c0, rfl, i0⟩ := open_ints stK (by kernel_rfl) (by kernel_rfl) (by kernel_rfl) (hval 0 _ v0 rfl rfl)
  obtain ⟨c1, rfl, i1⟩ := open_ints stK (by kernel_rfl) (by kernel_rfl) (by kernel_rfl) (hval 1 _ v1 rfl rfl)
  obtain ⟨s, hs, e0⟩ := dec_St i0
  obtain ⟨b, hb, e1⟩ := dec_St i1
  obtain rfl := agg_of e0
  obtain rfl := agg_of e1
  clear hA0 hval0
  refine (ChooseOne_any s b W (keyed_of_laid1 hL) hs hb).mono fun e W' ⟨he, hw⟩ => ?_
  subst he
  exact ⟨_, rfl, law_post (tb := 4) hW' hw rfl Tryd.laidOut (by kernel_rfl) (by kernel_rfl) (by kernel_rfl) rfl⟩

theorem chooseOne_holds : Rows.ChooseOneSaid :=
  OpenClaim.holds_of_wide 7 Tryd.f7 rfl rfl rfl rfl rfl rfl rfl ⟨rfl, rfl, rfl, rfl, rfl⟩ rfl rfl rfl rfl rfl (by kernel_rfl) Tryd.func7 (by kernel_rfl)
    (of_decide_eq_true (by kernel_rfl)) (by unfold Func.isWrapper; first | (rw [if_pos (by decide +kernel)]; kernel_rfl) | (rw [if_neg (by decide +kernel)]; exact ⟨rfl, rfl⟩))
    (fun os started H enc _ => chooseOne_lifted os started H enc)
theorem chooseOne_card : Rows.ChooseOneCardSaid :=
  Claim7.holds_tied_plain_at .later [] [.data] true (true, "2b3d87e1305c664949f63319e3d895bfad230abd91466623801a0826b3b84297") false chooseOne_holds (fun _ h => by cases h) (by kernel_rfl) (fun _ h => by cases h) chooseOne_row_tie rfl ⟨rfl, rfl⟩ (by kernel_rfl) rfl
    (fun f fn hf hfn => by
      obtain rfl : f = 7 := Option.some.inj ((show Tryd.prog.funcNamed "almagest/almagestlaw13.ChooseOne" = some 7 by kernel_rfl).symm.trans hf) |>.symm
      obtain rfl : fn = Tryd.f7 := (Option.some.inj (Tryd.func7.symm.trans hfn)).symm
      exact ⟨by kernel_rfl, fun j t ht => by
        have hall : (Tryd.f7.params.toList.all fun u => !Tryd.prog.wantsStandIn u) = true := by kernel_rfl
        have hm : t ∈ Tryd.f7.params.toList := by simpa using Array.mem_of_getElem? ht
        exact (show Tryd.prog.wantsStandIn t = false by simpa using List.all_eq_true.1 hall t hm)⟩)
    (by kernel_rfl)
#print axioms chooseOne_card
end Go.Proofs.YtpoaakdljpdkfaaDoor

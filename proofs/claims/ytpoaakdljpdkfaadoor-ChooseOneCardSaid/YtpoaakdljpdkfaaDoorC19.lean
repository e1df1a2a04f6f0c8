/- THE WALKS OF slices.Clone (bytes) AND wire.Writer.Bytes. -/
import Derived.Test.YtpoaakdljpdkfaaDoorC18
import Derived.Lib.SliceRun
set_option linter.unusedSimpArgs false
set_option linter.unusedVariables false
namespace Go.Proofs.YtpoaakdljpdkfaaDoor
open Go.RowKit Go.Alm
theorem Bs.at_ {base : Nat} {w : World} {v : Value} {bs : List Nat} (h : Bs base w v bs) (hne : bs ≠ []) : ∃ g cap, v = .slice (some ⟨g, 0, none⟩) bs.length cap ∧ base ≤ g ∧ g < w.heap.size ∧ bs.length ≤ cap ∧ (w.rowD g).extract 0 (0 + bs.length) = encB bs := by
  rcases h.2 with ⟨_, h2⟩ | ⟨g, cap, cur, h1, h2, h3, h4, h5, h6, h7⟩
  · exact absurd (List.length_eq_zero_iff.1 h2) hne
  · refine ⟨g, cap, h1, h2, (Array.getElem?_eq_some_iff.1 h3).1, h4, ?_⟩
    rw [rowD_of_heap h3]
    apply Array.toList_inj.1
    rw [Nat.mul_one] at h7
    simp only [encB, Array.toList_extract, List.extract_eq_take_drop, List.drop_zero, Nat.zero_add, Nat.sub_zero]
    exact h7
set_option maxRecDepth 20000 in
set_option maxHeartbeats 1000000 in
theorem Clone_any (g off cap : Nat) (bs : List Nat) (w : World) (hne : bs ≠ []) (hlen : bs.length ≤ 140737488355328) (hg : g < w.heap.size) (hrow : (w.rowD g).extract off (off + bs.length) = encB bs) :
    Calls Tryd.prog 128 #[.slice (some ⟨g, off, none⟩) bs.length cap] w fun e w' => ∃ v, e = .returned v ∧ Bs w.heap.size w' v bs ∧ Below w.heap.size w w' := by
  have heq : ∀ w, (binOp .eql 124 (.slice (some ⟨g, off, none⟩) bs.length cap) (.slice none 0 0)).run Tryd.prog w = .ok (.bool false) w := fun w => Lib.run_eql_slice_nil w 124 5 _ _ _ _ _ (by kernel_rfl)
  go_enter Tryd.func128, Tryd.ntmps128
  have hb0 : Bs w.heap.size (w.alloc (.cells #[] 5)) (.slice (some ⟨w.heap.size, 0, none⟩) 0 0) [] :=
    ⟨rfl, .inr ⟨w.heap.size, 0, #[], rfl, Nat.le_refl _, heap_alloc_new _ _, by simp, by simp only [maxLen]; omega, rfl, rfl⟩⟩
  have hr0 : ((w.alloc (.cells #[] 5)).rowD g).extract off (off + bs.length) = encB bs := by rw [rowD_alloc_old _ _ hg]; exact hrow
  go_wp2_with (first
    | (at_builtin; refine wpList_appB rfl _ _ rfl w.heap.size (.slice (some ⟨w.heap.size, 0, none⟩) 0 0) [] bs rfl hb0 g off bs.length cap rfl rfl hr0 (by simpa using hlen) (by simp) ?_; intro v1 w1 hbs1 hgr1
       have bel1 : Below w.heap.size w w1 := ((Below.refl _ _).alloc (Nat.le_refl _) _).grown hgr1 (by simp) hb0.block
       clear hgr1))
  go_ret
  exact ⟨v1, rfl, by simpa using hbs1, bel1⟩
set_option maxRecDepth 20000 in
set_option maxHeartbeats 1000000 in
theorem WBytes_any (base wb : Nat) (bs : List Nat) (w : World) (hw : Wr base wb w bs) (hne : bs ≠ []) (hlen : bs.length ≤ 140737488355328) :
    Calls Tryd.prog 104 #[.pointer (some ⟨wb, 0, none⟩)] w fun e w' => ∃ v, e = .returned v ∧ Bs w.heap.size w' v bs ∧ Below w.heap.size w w' := by
  obtain ⟨hb0, v, hv, hbs⟩ := hw
  have hlt := (Array.getElem?_eq_some_iff.1 hv).1
  have hrow := rowD_of_heap hv
  obtain ⟨g, cap, rfl, hg0, hg, hcap, hrg⟩ := hbs.at_ hne
  clear hbs
  go_enter Tryd.func104, Tryd.ntmps104
  go_wp2_with fail
  refine (Clone_any g 0 cap bs w hne hlen hg hrg).mono ?_
  rintro e w1 ⟨v, rfl, h1, h2⟩
  go_wp2_with fail
  go_ret
  exact ⟨v, rfl, h1, h2⟩
end Go.Proofs.YtpoaakdljpdkfaaDoor

/- THE WALK OF sha.Of. -/
import Derived.Test.YtpoaakdljpdkfaaDoorC10
set_option linter.unusedSimpArgs false
set_option linter.unusedVariables false
namespace Go
open Go.RowKit
theorem Owns.also {w W W1 : World} {L M : List (Nat × Array Value)} (h : Owns w W L) (h2 : Owns W W1 M) : Owns w W1 (L ++ M) := by
  refine ⟨h.below.trans (h2.below.mono h.below.size), fun p hp => ?_⟩
  rcases List.mem_append.1 hp with hp | hp
  · exact (h.call h2.below).blocks p hp
  · obtain ⟨h3, h4, h5, h6⟩ := h2.blocks p hp
    exact ⟨Nat.le_trans h.below.size h3, h4, h5, h6⟩
end Go
namespace Go.Alm
open Go.RowKit
theorem rep0 : Rep [] ⟨iv, List.replicate 64 0, 0⟩ := ⟨rfl, rfl, rfl, by intro v hv; rw [List.eq_of_mem_replicate hv]; omega, rfl, by decide⟩
/-- where bytes lie -/
def At (w : World) (ao : Option Addr) (c : Nat) (bs : List Nat) : Prop := bs = [] ∨ ∃ q o, ao = some ⟨q, o, none⟩ ∧ q < w.heap.size ∧ bs.length ≤ c ∧ (w.rowD q).extract o (o + bs.length) = encB bs
theorem At.below {w w' : World} {ao : Option Addr} {c : Nat} {bs : List Nat} (h : At w ao c bs) (hb : Below w.heap.size w w') : At w' ao c bs := by
  rcases h with h | ⟨q, o, h1, h2, h3, h4⟩
  · exact .inl h
  · exact .inr ⟨q, o, h1, Nat.lt_of_lt_of_le h2 hb.size, h3, by rw [rowD_congr (hb.block q h2)]; exact h4⟩
end Go.Alm
namespace Go.Proofs.YtpoaakdljpdkfaaDoor
open Go.RowKit Go.Alm
set_option maxRecDepth 20000 in
theorem ShaOf_any (bs : List Nat) (c : Nat) (ao : Option Addr) (w : World) (hk : Keyed w) (hs : At w ao c bs) (hb : ∀ v ∈ bs, v < 256) (hlen : bs.length < 1152921504606840000) :
    Calls Tryd.prog 100 #[.slice ao bs.length c] w fun e w' => e = .returned (.agg (encH (sha bs))) ∧ Below w.heap.size w w' := by
  go_enter Tryd.func100, Tryd.ntmps100
  go_wp2_with fail
  generalize hW : World.alloc w _ = W
  have own : Owns w W [(w.heap.size, encH zeroH)] := hW ▸ own_one w _ _
  clear hW
  have hBW := own.at1.2.1
  refine (New_any W).mono ?_
  rintro e w1 ⟨rfl, ownN⟩
  have own1 := own.also ownN
  simp only [List.cons_append, List.nil_append] at own1
  generalize W.heap.size = g at *
  go_wp2_with fail
  obtain ⟨hg0, ltg, rowg, frg⟩ := own1.at2
  have hkg := hk.lt
  have hkne : kg ≠ g := by omega
  have hs1 := hs.below own1.below
  have hsrc : bs = [] ∨ ∃ q o, Src w1 g ao q o c bs := by
    rcases hs with h | ⟨q, o, h1, h2, h3, h4⟩
    · exact .inl h
    · exact .inr ⟨q, o, h1, by omega, Nat.lt_of_lt_of_le h2 own1.below.size, h3, by rw [rowD_congr (own1.below.block q h2)]; exact h4⟩
  obtain ⟨q, o, hsrc⟩ : ∃ q o, bs = [] ∨ Src w1 g ao q o c bs := by
    rcases hsrc with h | ⟨q, o, h⟩
    · exact ⟨0, 0, .inl h⟩
    · exact ⟨q, o, .inr h⟩
  refine (Write_any _ [] bs g q o c ao w1 rep0 (by simp; omega) (hk.below own1.below) ltg hkne rowg frg hb hsrc).mono ?_
  rintro e w2 ⟨rfl, hkp, x', hrep, row2⟩
  rw [List.nil_append] at hrep
  have own2 := own1.kept hg0 ltg hkp row2
  simp only [List.map_cons, List.map_nil, if_neg (show ¬ w.heap.size = g by omega), if_true] at own2
  clear own1 ltg rowg frg hkp row2 own ownN hs1 hsrc
  obtain ⟨-, ltg, rowg, frg⟩ := own2.at2
  go_wp2_with fail
  refine (Sum_any' x' bs g w2 hrep (hk.below own2.below) ltg rowg hlen).mono ?_
  rintro e w3 ⟨rfl, hb3⟩
  have own3 := own2.call hb3
  clear own2 ltg rowg frg
  obtain ⟨-, lt1, row1, fr1⟩ := own3.at1
  go_wp2_with fail
  exact ret_cell rfl rfl rfl (rWH _ _ (sha bs) (by rw [rowD_setCells_same, row1, spliceL_all _ _ (by rw [Array.length_toList, size_encH, size_encH])])) ⟨rfl, below_setCells _ (by omega) _ _ _ _ own3.below⟩
end Go.Proofs.YtpoaakdljpdkfaaDoor

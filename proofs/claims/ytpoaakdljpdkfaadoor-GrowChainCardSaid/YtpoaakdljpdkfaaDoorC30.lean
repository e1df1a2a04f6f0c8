/- THE WALK OF GrowChain. -/
import Derived.Test.YtpoaakdljpdkfaaDoorC28
set_option linter.unusedSimpArgs false
set_option linter.unusedVariables false
namespace Go.Proofs.YtpoaakdljpdkfaaDoor
open Go.RowKit Go.Alm
set_option maxRecDepth 20000 in
set_option maxHeartbeats 2000000 in
theorem GrowChain_any (h : H32) (bl : List Bk) (ao : Option Addr) (cap : Nat) (w : World) (hk : Keyed w) (hb : ∀ b ∈ bl, b.slot < 4294967296) (hs : AtS w ao bl.length 65 (encBks bl)) :
    Calls Tryd.prog 4 #[.agg (encH h), .slice ao bl.length cap] w fun e w' => e = .returned (.bool true) ∧ Below w.heap.size w w' := by
  go_enter Tryd.func4, Tryd.ntmps4
  go_wp2_with fail
  generalize hW : World.alloc w _ = W
  have own : Owns w W [(w.heap.size, encH h)] := hW ▸ own_one w _ _
  clear hW
  refine (awake10_any _ (hk.below own.below)).mono ?_
  rintro e w1 ⟨rfl, hb1⟩
  have own1 := own.call hb1
  clear own hb1
  obtain ⟨-, lt0, row0, -⟩ := own1.at1
  by_cases hbig : 60 < bl.length
  · go_wp2_with fail
    go_ret
    exact ⟨rfl, own1.below⟩
  go_wp2_with fail
  refine (Chain_any h bl ao cap _ (hk.below own1.below) hb (by omega) (hs.below own1.below)).mono ?_
  rintro e w2 ⟨rfl, hb2⟩
  have own2 := own1.call hb2
  clear own1 hb2 lt0 row0
  unfold chain
  obtain ⟨cS, cN, cE, hch⟩ : ∃ cS cN cE, chainFrom (genesis h) bl 0 = (cS, cN, cE) := ⟨_, _, _, rfl⟩
  rw [hch]
  replace hch : ∀ _ : Unit, chainFrom (genesis h) bl 0 = (cS, cN, cE) := fun _ => hch
  obtain ⟨-, lt0, row0, -⟩ := own2.at1
  go_wp2_with fail
  have own3 := own2.alloc (encSt cS) 35
  simp only [List.cons_append, List.nil_append] at own3
  generalize World.alloc w2 _ = w3 at own3 ⊢
  have hc5 : w.heap.size < w2.heap.size := own2.at1.2.1
  generalize w2.heap.size = c5 at own3 hc5 ⊢
  clear own2 lt0 row0
  obtain ⟨-, lt0, row0, -⟩ := own3.at1
  try go_wp2_with fail
  refine (SGenesis_any h _).mono ?_
  rintro e w4 ⟨rfl, hb4⟩
  have own4 := own3.call hb4
  clear own3 hb4 lt0 row0
  have hwf := genesis_wf h
  go_wp2_with fail
  have own5 := own4.alloc (encSt (genesis h)) 35
  simp only [List.cons_append, List.nil_append] at own5
  generalize World.alloc w4 _ = w5 at own5 ⊢
  have hc8 : c5 < w4.heap.size := own4.at2.2.1
  generalize w4.heap.size = c8 at own5 hc8 ⊢
  clear own4
  go_loopw [29] (fun i wr => ∃ (k : Nat) (s : St), k ≤ bl.length ∧ i = .int .i64 k ∧ s.Wf ∧ (∀ _ : Unit, chainFrom (genesis h) bl 0 = chainFrom s (bl.drop k) k) ∧ Owns w wr [(c5, encSt cS), (c8, encSt s)])
    (fun i _ => bl.length - (intOf i).toNat)
  case atStart => exact ⟨0, genesis h, Nat.zero_le _, rfl, hwf, fun _ => rfl, own5.sub (by intro p hp; simp only [List.mem_cons, List.not_mem_nil, or_false] at hp ⊢; rcases hp with h | h; exact .inr (.inl h); exact .inr (.inr h))⟩
  case round =>
    obtain ⟨k, s, hkl, rfl, hwf, hcs, own6⟩ := hrel
    obtain ⟨-, lt0, row0, fr0⟩ := own6.at1
    obtain ⟨-, lt1, row1, fr1⟩ := own6.at2
    by_cases hend : k = bl.length
    · have hfin := (hch ()).symm.trans (hcs ())
      rw [chainFrom_end _ _ _ hend] at hfin
      simp only [Prod.mk.injEq] at hfin
      obtain ⟨e1, e2, e3⟩ := hfin
      clear hch hcs
      subst e1 e2 e3 hend
      have f1 : decide (cS = cS) = true := by simp
      have f2 : (((bl.length : Nat) : Int) == (bl.length : Int)) = true := by simp
      go_wp2_with fail
      go_ret
      exact ⟨rfl, own6.below⟩
    · have hlt : k < bl.length := by omega
      obtain ⟨q, o, rfl, hq, hrow⟩ := (hs.resolve_left (by omega))
      obtain ⟨hle, hget⟩ := AtS.get (by omega) encBk (fun b => size_encBk b) bl rfl hrow k hlt
      have hqr : q < wr.heap.size := Nat.lt_of_lt_of_le hq own6.below.size
      rw [← rowD_congr (own6.below.block q hq)] at hle hget
      have hbk := hb _ (List.getElem_mem hlt)
      have hst := chainFrom_stop s bl k hlt
      have hon := chainFrom_on s bl k hlt
      generalize bl[k] = b at hget hbk hst hon
      clear hs hrow
      go_wp2_with fail
      have own7 := own6.alloc (encBk b) 37
      refine (Child_any s b _ (hk.below own7.below) hwf hbk).mono ?_
      generalize World.alloc wr _ = w7 at own7 ⊢
      generalize wr.heap.size = c9 at own7 ⊢
      rintro e w8 ⟨rfl, hb8⟩
      have own8 := own7.call hb8
      clear own6 own7 lt0 row0 fr0 lt1 row1 fr1 hqr hle hget
      have hcwf := child_wf hwf hbk
      generalize child s b = c at hst hon hcwf ⊢
      obtain ⟨cs, ce⟩ := c
      simp only at hst hon hcwf ⊢
      simp only [List.cons_append, List.nil_append] at own8
      obtain ⟨-, lt0, row0, fr0⟩ := own8.at1
      obtain ⟨-, lt1, row1, fr1⟩ := own8.at2
      by_cases he : ce = 0
      · have hon' := hon he
        subst he
        clear hst hon
        have hch' : ∀ _ : Unit, chainFrom (genesis h) bl 0 = chainFrom cs (bl.drop (k + 1)) (k + 1) := fun _ => (hcs ()).trans hon'
        clear hon' hcs
        go_wp2_with fail
        have own9 := (own8.alloc (encSt cs) 35).setCells c8 0 (encSt cs).toList (by omega)
        refine ⟨⟨k + 1, cs, by omega, by go_num, hcwf, hch', ?_⟩, by simp [intOf]; omega⟩
        have h1 := own8.at2.2.1
        have h2 := own8.at3.1
        simp only [List.cons_append, List.nil_append, List.map_cons, List.map_nil, if_true, if_neg (show ¬ c5 = c8 by omega), all_st] at own9
        rw [setCells_alloc_past _ _ _ _ _ lt1] at own9
        exact own9.sub (by intro p hp; simp only [List.mem_cons, List.not_mem_nil, or_false] at hp ⊢; rcases hp with h | h; exact .inl h; exact .inr (.inl h))
      · have hst' := hst he
        clear hst hon
        have hfin := (hch ()).symm.trans ((hcs ()).trans hst')
        simp only [Prod.mk.injEq] at hfin
        obtain ⟨e1, e2, e3⟩ := hfin
        clear hch hcs hst'
        subst e1 e2 e3
        have he' : ((cE : Int) != 0) = true := by simpa using he
        have f1 : decide (cS = cS) = true := by simp
        have f2 : ((cN : Int) == (cN : Int)) = true := by simp
        have f3 : ((cE : Int) == (cE : Int)) = true := by simp
        go_wp2_with fail
        go_ret
        exact ⟨rfl, own8.below.alloc own8.below.size _⟩
end Go.Proofs.YtpoaakdljpdkfaaDoor

/- THE WALK OF grow.Chain. -/
import Derived.Test.YtpoaakdljpdkfaaDoorC26
set_option linter.unusedSimpArgs false
set_option linter.unusedVariables false
namespace Go.Proofs.YtpoaakdljpdkfaaDoor
open Go.RowKit Go.Alm
@[go_sem] theorem zcSt (x : St) : spliceL Tryd.zeroCells35 0 (encSt x).toList = encSt x := by
  rw [spliceL_all _ _ (by rw [Array.length_toList, size_encSt]; kernel_rfl)]
@[go_sem] theorem zcBk (x : Bk) : spliceL Tryd.zeroCells37 0 (encBk x).toList = encBk x := by
  rw [spliceL_all _ _ (by rw [Array.length_toList, size_encBk]; kernel_rfl)]
theorem ret_cell_tmp2 {P : Program} {fn : Func} {R : Ending → World → Prop} {a : Act} {w : World} {p u x : Tmp} {ty : TypeId} {v : Value} {g : Nat} (h : fn.results = #[.cell p ty, .tmp u, .tmp x]) (hp : a.tmps.getD p undef = .pointer (some ⟨g, 0, none⟩)) (hd : a.defers = [])
    (hv : (loadVar ty ⟨g, 0, none⟩).run P w = .ok v w) (hR : R (.returned (.tuple #[v, a.tmps.getD u undef, a.tmps.getD x undef])) w) : bodyPost P fn R .ret a w := by
  refine bodyPost_ret ?_ hd hR
  have hp' : a.tmps[p]?.getD undef = .pointer (some ⟨g, 0, none⟩) := by simpa using hp
  simp [results, h, hp', asAddr, hv]
theorem chainFrom_end (s : St) (l : List Bk) (k : Nat) (h : k = l.length) : chainFrom s (l.drop k) k = (s, l.length, 0) := by
  subst h; rw [List.drop_length]; rfl
theorem chainFrom_stop (s : St) (l : List Bk) (k : Nat) (hk : k < l.length) (h : (child s l[k]).2 ≠ 0) : chainFrom s (l.drop k) k = (s, k, (child s l[k]).2) := by
  rw [List.drop_eq_getElem_cons hk, chainFrom]; simp only [if_pos h]
theorem chainFrom_on (s : St) (l : List Bk) (k : Nat) (hk : k < l.length) (h : (child s l[k]).2 = 0) : chainFrom s (l.drop k) k = chainFrom (child s l[k]).1 (l.drop (k + 1)) (k + 1) := by
  rw [List.drop_eq_getElem_cons hk, chainFrom]; simp only [h]; rfl
set_option maxRecDepth 20000 in
set_option maxHeartbeats 2000000 in
theorem Chain_any (h : H32) (bl : List Bk) (ao : Option Addr) (cap : Nat) (w : World) (hk : Keyed w) (hb : ∀ b ∈ bl, b.slot < 4294967296) (hlen : bl.length < 1000000) (hs : AtS w ao bl.length 65 (encBks bl)) :
    Calls Tryd.prog 17 #[.agg (encH h), .slice ao bl.length cap] w fun e w' => e = .returned (.tuple #[.agg (encSt (chain h bl).1), .int .i64 ((chain h bl).2.1 : Nat), .int .i64 ((chain h bl).2.2 : Nat)]) ∧ Below w.heap.size w w' := by
  unfold chain
  generalize hV : Value.tuple _ = V
  replace hV : ∀ _ : Unit, V = Value.tuple #[.agg (encSt (chainFrom (genesis h) bl 0).1), .int .i64 ((chainFrom (genesis h) bl 0).2.1 : Nat), .int .i64 ((chainFrom (genesis h) bl 0).2.2 : Nat)] := fun _ => hV.symm
  go_enter Tryd.func17, Tryd.ntmps17
  go_wp2_with fail
  generalize hW : World.alloc (World.alloc w _) _ = W
  have own : Owns w W [(w.heap.size, encH h), (w.heap.size + 1, encSt state0)] := hW ▸ own_two w _ _ _ _
  clear hW
  refine (SGenesis_any h _).mono ?_
  rintro e w1 ⟨rfl, hb1⟩
  have own1 := own.call hb1
  clear own
  have hwf := genesis_wf h
  go_wp2_with fail
  have own2 := own1.alloc (encSt (genesis h)) 35
  simp only [List.cons_append, List.nil_append] at own2
  generalize World.alloc w1 _ = w2 at own2 ⊢
  have hc7 : w.heap.size + 1 < w1.heap.size := own1.at2.2.1
  generalize w1.heap.size = c7 at own2 hc7 ⊢
  clear own1 hb1
  go_loopw [16] (fun i wr => ∃ (k : Nat) (s : St), k ≤ bl.length ∧ i = .int .i64 k ∧ s.Wf ∧ (∀ _ : Unit, chainFrom (genesis h) bl 0 = chainFrom s (bl.drop k) k) ∧ Owns w wr [(w.heap.size + 1, encSt state0), (c7, encSt s)])
    (fun i _ => bl.length - (intOf i).toNat)
  case atStart => exact ⟨0, genesis h, Nat.zero_le _, rfl, hwf, fun _ => rfl, own2.sub (by intro p hp; simp only [List.mem_cons, List.not_mem_nil, or_false] at hp ⊢; rcases hp with h | h; exact .inr (.inl h); exact .inr (.inr h))⟩
  case round =>
    obtain ⟨k, s, hkl, rfl, hwf, hch, own3⟩ := hrel
    obtain ⟨-, lt0, row0, fr0⟩ := own3.at1
    obtain ⟨-, lt1, row1, fr1⟩ := own3.at2
    by_cases hend : k = bl.length
    · have hfin := hch ()
      rw [chainFrom_end _ _ _ hend] at hfin
      rw [hfin] at hV
      clear hfin hch
      subst hend
      go_wp2_with fail
      exact ret_cell_tmp2 rfl rfl rfl (rWSt _ _ _ (by rw [rowD_setCells_same, row0, all_st])) ⟨by rw [hV ()]; rfl, below_setCells _ (by omega) _ _ _ _ own3.below⟩
    · have hlt : k < bl.length := by omega
      obtain ⟨q, o, rfl, hq, hrow⟩ := (hs.resolve_left (by omega))
      obtain ⟨hle, hget⟩ := AtS.get (by omega) encBk (fun b => size_encBk b) bl rfl hrow k hlt
      have hqr : q < wr.heap.size := Nat.lt_of_lt_of_le hq own3.below.size
      rw [← rowD_congr (own3.below.block q hq)] at hle hget
      have hbk := hb _ (List.getElem_mem hlt)
      have hst := chainFrom_stop s bl k hlt
      have hon := chainFrom_on s bl k hlt
      generalize bl[k] = b at hget hbk hst hon
      clear hs hrow
      go_wp2_with fail
      have own4 := own3.alloc (encBk b) 37
      refine (Child_any s b _ (hk.below own4.below) hwf hbk).mono ?_
      generalize World.alloc wr _ = w4 at own4 ⊢
      generalize wr.heap.size = c9 at own4 ⊢
      rintro e w5 ⟨rfl, hb5⟩
      have own5 := own4.call hb5
      clear own3 own4 lt0 row0 fr0 lt1 row1 fr1 hqr hle hget
      have hcwf := child_wf hwf hbk
      generalize child s b = c at hst hon hcwf ⊢
      obtain ⟨cs, ce⟩ := c
      simp only at hst hon hcwf ⊢
      simp only [List.cons_append, List.nil_append] at own5
      obtain ⟨-, lt0, row0, fr0⟩ := own5.at1
      obtain ⟨-, lt1, row1, fr1⟩ := own5.at2
      by_cases he : ce = 0
      · have hon' := hon he
        subst he
        clear hst hon
        have hch' : ∀ _ : Unit, chainFrom (genesis h) bl 0 = chainFrom cs (bl.drop (k + 1)) (k + 1) := fun _ => (hch ()).trans hon'
        clear hon' hch
        go_wp2_with fail
        have own6 := (own5.alloc (encSt cs) 35).setCells c7 0 (encSt cs).toList (by omega)
        refine ⟨⟨k + 1, cs, by omega, by go_num, hcwf, hch', ?_⟩, by simp [intOf]; omega⟩
        have h1 := own5.at2.2.1
        have h2 := own5.at3.1
        simp only [List.cons_append, List.nil_append, List.map_cons, List.map_nil, if_true, if_neg (show ¬ w.heap.size + 1 = c7 by omega), all_st] at own6
        rw [setCells_alloc_past _ _ _ _ _ lt1] at own6
        exact own6.sub (by intro p hp; simp only [List.mem_cons, List.not_mem_nil, or_false] at hp ⊢; rcases hp with h | h; exact .inl h; exact .inr (.inl h))
      · have hst' := hst he
        clear hst hon
        have hfin := (hch ()).trans hst'
        clear hch hst'
        rw [hfin] at hV
        clear hfin
        have he' : ((ce : Int) != 0) = true := by simpa using he
        go_wp2_with fail
        have own6 := own5.alloc (encSt cs) 35
        obtain ⟨-, lt2, row2, fr2⟩ := own6.at1
        exact ret_cell_tmp2 rfl rfl rfl (rWSt _ _ _ (by rw [rowD_alloc_old _ _ (by rw [size_setCells]; exact lt0), rowD_setCells_same, row0, all_st])) ⟨by rw [hV ()]; rfl, (below_setCells _ (by omega) _ _ _ _ own5.below).alloc (by rw [size_setCells]; exact own5.below.size) _⟩
end Go.Proofs.YtpoaakdljpdkfaaDoor

/- THE WALK OF LinkOne. -/
import Derived.Test.YtpoaakdljpdkfaaDoorC33
import Derived.Test.YtpoaakdljpdkfaaDoorTw
set_option linter.unusedSimpArgs false
set_option linter.unusedVariables false
namespace Go.Proofs.YtpoaakdljpdkfaaDoor
open Go.RowKit Go.Alm
@[go_sem] theorem bldStS (n : Nat) (l d : H32) (w : World) : (buildK 35 #[(3, .int .u32 (n : Int)), (1, .agg (encH l)), (2, .agg (encH d))]).run Tryd.prog w = .ok (.value (.agg (encSt ⟨zeroH, l, d, n, 0, 0, win0, pair0⟩))) w := by
  refine (bldSt #[(3, .int .u32 (n : Int)), (1, .agg (encH l)), (2, .agg (encH d))] ⟨⟨96, 1, rfl, rfl, by omega⟩, ⟨32, 32, rfl, size_encH _, by omega⟩, ⟨64, 32, rfl, size_encH _, by omega⟩, trivial⟩ w).trans ?_
  simp only [layAll, List.getElem?_toArray, List.getElem?_cons_zero, List.getElem?_cons_succ, Option.getD_some, Value.cells, spliceL, set_st_slot, set_st_ledger, set_st_draw]
  rfl
set_option maxRecDepth 20000 in
set_option maxHeartbeats 4000000 in
theorem LinkOne_any (s : St) (b : Bk) (n : Nat) (w : World) (hk : Keyed w) (hs : s.Wf) (hb : b.slot < 4294967296) (hn : n < 256) :
    Calls Tryd.prog 6 #[.agg (encSt s), .agg (encBk b), .int .u8 (n : Int)] w fun e w' => e = .returned (.bool true) ∧ Below w.heap.size w w' := by
  go_enter Tryd.func6, Tryd.ntmps6
  go_wp2_with fail
  generalize hW : World.alloc (World.alloc w _) _ = W
  have own : Owns w W [(w.heap.size, encSt s), (w.heap.size + 1, encBk b)] := hW ▸ own_two w _ _ _ _
  clear hW
  refine (awake11_any _ (hk.below own.below)).mono ?_
  rintro e w1 ⟨rfl, hb1⟩
  have own1 := own.call hb1
  clear own
  obtain ⟨-, lt0, row0, -⟩ := own1.at1
  obtain ⟨-, lt1, row1, -⟩ := own1.at2
  go_wp2_with fail
  refine (SRight_any s _ hs).mono ?_
  rintro e w2 ⟨rfl, hb2⟩
  have own2 := own1.call hb2
  clear own1 lt0 row0 lt1 row1
  obtain ⟨-, lt0, row0, -⟩ := own2.at1
  obtain ⟨-, lt1, row1, -⟩ := own2.at2
  by_cases hr : right s = true
  rotate_left
  · replace hr : right s = false := by simpa using hr
    go_wp2_with fail
    go_ret
    exact ⟨rfl, own2.below⟩
  go_wp2_with fail
  refine (Child_any s b _ (hk.below own2.below) hs hb).mono ?_
  rintro e w3 ⟨rfl, hb3⟩
  have own3 := own2.call hb3
  clear own2 lt0 row0 lt1 row1
  have hcwf := child_wf (s := s) hs hb
  obtain ⟨c, hc⟩ : ∃ c, (child s b).1 = c := ⟨_, rfl⟩
  obtain ⟨ce, hce⟩ : ∃ ce, (child s b).2 = ce := ⟨_, rfl⟩
  have hch : ∀ _ : Unit, child s b = (c, ce) := fun _ => Prod.ext hc hce
  rw [hc] at hcwf
  by_cases he : ce = 0
  rotate_left
  · have hfo : ∀ _ : Unit, follows s ⟨zeroH, b.ledger, b.draw, b.slot, 0, 0, win0, pair0⟩ = ce := fun _ => by
      unfold follows
      simp only
      rw [show (⟨b.slot, b.ledger, b.draw⟩ : Bk) = b from rfl, hch ()]
      simp only
      rw [if_neg (by simp [he])]
    rw [hch ()]
    have he' : ((ce : Int) != 0) = true := by simpa using he
    have he2 : ((ce : Int) == (ce : Int)) = true := by simp
    clear hch hc hce
    obtain ⟨-, lt0, row0, -⟩ := own3.at1
    obtain ⟨-, lt1, row1, -⟩ := own3.at2
    simp only
    go_wp2_with fail
    refine (LFollows_any s ⟨zeroH, b.ledger, b.draw, b.slot, 0, 0, win0, pair0⟩ _ (hk.below (own3.alloc _ _).below) hs hb).mono ?_
    rw [hfo ()]
    rintro e w4 ⟨rfl, hb4⟩
    have own4 := (own3.alloc (encSt c) 35).call hb4
    clear own3 hb4 lt0 row0 lt1 row1
    go_wp2_with fail
    go_ret
    exact ⟨rfl, own4.below⟩
  rw [hch ()]
  subst he
  clear hce
  have hfc : ∀ _ : Unit, follows s c = 0 := fun _ => by
    have hkk : (⟨c.slot, c.ledger, c.draw⟩ : Bk) = b := by
      have := child_right (s := s) (b := b) hr (by rw [hch ()])
      rw [hc] at this
      rw [this.2.2.2.2.1, this.2.2.2.2.2.2.1, this.2.2.2.2.2.2.2.1]
    unfold follows
    rw [hkk, hch ()]
    simp
  have hfd : ∀ d : St, d ≠ c → d.slot = c.slot → d.ledger = c.ledger → d.draw = c.draw → follows s d = 7 := fun d h1 h2 h3 h4 => by
    have hkk : (⟨c.slot, c.ledger, c.draw⟩ : Bk) = b := by
      have := child_right (s := s) (b := b) hr (by rw [hch ()])
      rw [hc] at this
      rw [this.2.2.2.2.1, this.2.2.2.2.2.2.1, this.2.2.2.2.2.2.2.1]
    unfold follows
    rw [h2, h3, h4, hkk, hch ()]
    simp only
    rw [if_pos ⟨trivial, fun h => h1 h.symm⟩]
  clear hch hc
  obtain ⟨-, lt0, row0, -⟩ := own3.at1
  obtain ⟨-, lt1, row1, -⟩ := own3.at2
  simp only
  obtain ⟨x0, hx0, hk0⟩ := st_cell c hcwf 0 .u8 (by kernel_rfl)
  have g0 : (encSt c)[0]'(by rw [size_encSt]; omega) = .int .u8 x0 := Option.some.inj ((Array.getElem?_eq_getElem _).symm.trans hx0)
  obtain ⟨x101, hx101, hk101⟩ := st_cell c hcwf 101 .u32 (by kernel_rfl)
  have g101 : (encSt c)[101]'(by rw [size_encSt]; omega) = .int .u32 x101 := Option.some.inj ((Array.getElem?_eq_getElem _).symm.trans hx101)
  obtain ⟨x140, hx140, hk140⟩ := st_cell c hcwf 140 .u8 (by kernel_rfl)
  have g140 : (encSt c)[140]'(by rw [size_encSt]; omega) = .int .u8 x140 := Option.some.inj ((Array.getElem?_eq_getElem _).symm.trans hx140)
  obtain ⟨x361, hx361, hk361⟩ := st_cell c hcwf 361 .u8 (by kernel_rfl)
  have g361 : (encSt c)[361]'(by rw [size_encSt]; omega) = .int .u8 x361 := Option.some.inj ((Array.getElem?_eq_getElem _).symm.trans hx361)
  have hx97 := st_length c
  have hx98 := st_count c
  have hx99 := st_win_min c
  have hx100 := st_win_ring_last c
  have hx362 := st_epochs_next_length c
  replace hx0 : ∀ _ : Unit, _ := fun _ => hx0
  replace hx101 : ∀ _ : Unit, _ := fun _ => hx101
  replace hx140 : ∀ _ : Unit, _ := fun _ => hx140
  replace hx361 : ∀ _ : Unit, _ := fun _ => hx361
  replace hx97 : ∀ _ : Unit, _ := fun _ => hx97
  replace hx98 : ∀ _ : Unit, _ := fun _ => hx98
  replace hx99 : ∀ _ : Unit, _ := fun _ => hx99
  replace hx100 : ∀ _ : Unit, _ := fun _ => hx100
  replace hx362 : ∀ _ : Unit, _ := fun _ => hx362
  go_wp2_with fail
  · have hv : (encSt c)[0]? = some (.int .u8 x0) := hx0 ()
    have hb0 : 0 ≤ x0 ∧ x0 ≤ 255 := by
      obtain ⟨k', hk', hh⟩ := st_cell c hcwf 0 .u8 (by kernel_rfl)
      rw [hv] at hk'
      simp only [Option.some.injEq, Value.int.injEq, true_and] at hk'
      subst hk'
      exact hh
    obtain ⟨d, hdwf, hde, hdne, hds, hdl, hdd⟩ := tweak c hcwf 0 .u8 x0 ((x0 + 1) % 256) hv (show (0 : Int) ≤ (x0 + 1) % 256 ∧ (x0 + 1) % 256 ≤ 255 by omega) (by omega) (by omega)
    clear hv hb0 hx0 hx97 hx98 hx99 hx100 hx101 hx140 hx361 hx362 g0 g101 g140 g361 hk0 hk101 hk140 hk361
    have h7 : ∀ _ : Unit, follows s d = 7 := fun _ => hfd d hdne hds hdl hdd
    clear hfd
    have hdsl : d.slot < 4294967296 := by rw [hds]; exact hcwf.slot
    clear hdne hds hdl hdd hdwf
    have own4 := (own3.alloc (encSt c) 35).alloc ((encSt c).setIfInBounds 0 (.int .u8 ((x0 + 1) % 256))) 35
    have hsz : (w3.alloc (.cells (encSt c) 35)).heap.size = w3.heap.size + 1 := by simp
    simp only [List.cons_append, List.nil_append] at own4
    rw [hsz, hde] at own4
    rw [hde]
    generalize (World.alloc (World.alloc w3 _) _) = w4 at own4 ⊢
    clear own3 lt0 row0 lt1 row1 hsz hde
    obtain ⟨-, lt0, row0, -⟩ := own4.at1
    obtain ⟨-, lt2, row2, -⟩ := own4.at3
    obtain ⟨-, lt3, row3, -⟩ := own4.at4
    go_simp
    go_wp2_with fail
    refine (LFollows_any s c _ (hk.below own4.below) hs hcwf.slot).mono ?_
    rw [hfc ()]
    rintro e w5 ⟨rfl, hb5⟩
    have own5 := own4.call hb5
    clear own4 hb5 lt0 row0 lt2 row2 lt3 row3
    obtain ⟨-, lt0, row0, -⟩ := own5.at1
    obtain ⟨-, lt3, row3, -⟩ := own5.at4
    go_wp2_with fail
    refine (LFollows_any s d _ (hk.below own5.below) hs hdsl).mono ?_
    rw [h7 ()]
    rintro e w6 ⟨rfl, hb6⟩
    have own6 := own5.call hb6
    clear own5 hb6 lt0 row0 lt3 row3
    go_wp2_with fail
    go_ret
    exact ⟨rfl, own6.below⟩
  · have hv : (encSt c)[97]? = some (.int .u32 (c.length : Int)) := hx97 ()
    have hb0 : 0 ≤ (c.length : Int) ∧ (c.length : Int) ≤ 4294967295 := by
      obtain ⟨k', hk', hh⟩ := st_cell c hcwf 97 .u32 (by kernel_rfl)
      rw [hv] at hk'
      simp only [Option.some.injEq, Value.int.injEq, true_and] at hk'
      subst hk'
      exact hh
    obtain ⟨d, hdwf, hde, hdne, hds, hdl, hdd⟩ := tweak c hcwf 97 .u32 (c.length : Int) (((c.length : Int) + 1) % 4294967296) hv (show (0 : Int) ≤ ((c.length : Int) + 1) % 4294967296 ∧ ((c.length : Int) + 1) % 4294967296 ≤ 4294967295 by omega) (by omega) (by omega)
    clear hv hb0 hx0 hx97 hx98 hx99 hx100 hx101 hx140 hx361 hx362 g0 g101 g140 g361 hk0 hk101 hk140 hk361
    have h7 : ∀ _ : Unit, follows s d = 7 := fun _ => hfd d hdne hds hdl hdd
    clear hfd
    have hdsl : d.slot < 4294967296 := by rw [hds]; exact hcwf.slot
    clear hdne hds hdl hdd hdwf
    have own4 := (own3.alloc (encSt c) 35).alloc ((encSt c).setIfInBounds 97 (.int .u32 (((c.length : Int) + 1) % 4294967296))) 35
    have hsz : (w3.alloc (.cells (encSt c) 35)).heap.size = w3.heap.size + 1 := by simp
    simp only [List.cons_append, List.nil_append] at own4
    rw [hsz, hde] at own4
    rw [hde]
    generalize (World.alloc (World.alloc w3 _) _) = w4 at own4 ⊢
    clear own3 lt0 row0 lt1 row1 hsz hde
    obtain ⟨-, lt0, row0, -⟩ := own4.at1
    obtain ⟨-, lt2, row2, -⟩ := own4.at3
    obtain ⟨-, lt3, row3, -⟩ := own4.at4
    go_simp
    go_wp2_with fail
    refine (LFollows_any s c _ (hk.below own4.below) hs hcwf.slot).mono ?_
    rw [hfc ()]
    rintro e w5 ⟨rfl, hb5⟩
    have own5 := own4.call hb5
    clear own4 hb5 lt0 row0 lt2 row2 lt3 row3
    obtain ⟨-, lt0, row0, -⟩ := own5.at1
    obtain ⟨-, lt3, row3, -⟩ := own5.at4
    go_wp2_with fail
    refine (LFollows_any s d _ (hk.below own5.below) hs hdsl).mono ?_
    rw [h7 ()]
    rintro e w6 ⟨rfl, hb6⟩
    have own6 := own5.call hb6
    clear own5 hb6 lt0 row0 lt3 row3
    go_wp2_with fail
    go_ret
    exact ⟨rfl, own6.below⟩
  · have hv : (encSt c)[98]? = some (.int .u32 (c.count : Int)) := hx98 ()
    have hb0 : 0 ≤ (c.count : Int) ∧ (c.count : Int) ≤ 4294967295 := by
      obtain ⟨k', hk', hh⟩ := st_cell c hcwf 98 .u32 (by kernel_rfl)
      rw [hv] at hk'
      simp only [Option.some.injEq, Value.int.injEq, true_and] at hk'
      subst hk'
      exact hh
    obtain ⟨d, hdwf, hde, hdne, hds, hdl, hdd⟩ := tweak c hcwf 98 .u32 (c.count : Int) (((c.count : Int) + 1) % 4294967296) hv (show (0 : Int) ≤ ((c.count : Int) + 1) % 4294967296 ∧ ((c.count : Int) + 1) % 4294967296 ≤ 4294967295 by omega) (by omega) (by omega)
    clear hv hb0 hx0 hx97 hx98 hx99 hx100 hx101 hx140 hx361 hx362 g0 g101 g140 g361 hk0 hk101 hk140 hk361
    have h7 : ∀ _ : Unit, follows s d = 7 := fun _ => hfd d hdne hds hdl hdd
    clear hfd
    have hdsl : d.slot < 4294967296 := by rw [hds]; exact hcwf.slot
    clear hdne hds hdl hdd hdwf
    have own4 := (own3.alloc (encSt c) 35).alloc ((encSt c).setIfInBounds 98 (.int .u32 (((c.count : Int) + 1) % 4294967296))) 35
    have hsz : (w3.alloc (.cells (encSt c) 35)).heap.size = w3.heap.size + 1 := by simp
    simp only [List.cons_append, List.nil_append] at own4
    rw [hsz, hde] at own4
    rw [hde]
    generalize (World.alloc (World.alloc w3 _) _) = w4 at own4 ⊢
    clear own3 lt0 row0 lt1 row1 hsz hde
    obtain ⟨-, lt0, row0, -⟩ := own4.at1
    obtain ⟨-, lt2, row2, -⟩ := own4.at3
    obtain ⟨-, lt3, row3, -⟩ := own4.at4
    go_simp
    go_wp2_with fail
    refine (LFollows_any s c _ (hk.below own4.below) hs hcwf.slot).mono ?_
    rw [hfc ()]
    rintro e w5 ⟨rfl, hb5⟩
    have own5 := own4.call hb5
    clear own4 hb5 lt0 row0 lt2 row2 lt3 row3
    obtain ⟨-, lt0, row0, -⟩ := own5.at1
    obtain ⟨-, lt3, row3, -⟩ := own5.at4
    go_wp2_with fail
    refine (LFollows_any s d _ (hk.below own5.below) hs hdsl).mono ?_
    rw [h7 ()]
    rintro e w6 ⟨rfl, hb6⟩
    have own6 := own5.call hb6
    clear own5 hb6 lt0 row0 lt3 row3
    go_wp2_with fail
    go_ret
    exact ⟨rfl, own6.below⟩
  · have hv : (encSt c)[99]? = some (.int .u32 (c.win.min : Int)) := hx99 ()
    have hb0 : 0 ≤ (c.win.min : Int) ∧ (c.win.min : Int) ≤ 4294967295 := by
      obtain ⟨k', hk', hh⟩ := st_cell c hcwf 99 .u32 (by kernel_rfl)
      rw [hv] at hk'
      simp only [Option.some.injEq, Value.int.injEq, true_and] at hk'
      subst hk'
      exact hh
    obtain ⟨d, hdwf, hde, hdne, hds, hdl, hdd⟩ := tweak c hcwf 99 .u32 (c.win.min : Int) (((c.win.min : Int) + 1) % 4294967296) hv (show (0 : Int) ≤ ((c.win.min : Int) + 1) % 4294967296 ∧ ((c.win.min : Int) + 1) % 4294967296 ≤ 4294967295 by omega) (by omega) (by omega)
    clear hv hb0 hx0 hx97 hx98 hx99 hx100 hx101 hx140 hx361 hx362 g0 g101 g140 g361 hk0 hk101 hk140 hk361
    have h7 : ∀ _ : Unit, follows s d = 7 := fun _ => hfd d hdne hds hdl hdd
    clear hfd
    have hdsl : d.slot < 4294967296 := by rw [hds]; exact hcwf.slot
    clear hdne hds hdl hdd hdwf
    have own4 := (own3.alloc (encSt c) 35).alloc ((encSt c).setIfInBounds 99 (.int .u32 (((c.win.min : Int) + 1) % 4294967296))) 35
    have hsz : (w3.alloc (.cells (encSt c) 35)).heap.size = w3.heap.size + 1 := by simp
    simp only [List.cons_append, List.nil_append] at own4
    rw [hsz, hde] at own4
    rw [hde]
    generalize (World.alloc (World.alloc w3 _) _) = w4 at own4 ⊢
    clear own3 lt0 row0 lt1 row1 hsz hde
    obtain ⟨-, lt0, row0, -⟩ := own4.at1
    obtain ⟨-, lt2, row2, -⟩ := own4.at3
    obtain ⟨-, lt3, row3, -⟩ := own4.at4
    go_simp
    go_wp2_with fail
    refine (LFollows_any s c _ (hk.below own4.below) hs hcwf.slot).mono ?_
    rw [hfc ()]
    rintro e w5 ⟨rfl, hb5⟩
    have own5 := own4.call hb5
    clear own4 hb5 lt0 row0 lt2 row2 lt3 row3
    obtain ⟨-, lt0, row0, -⟩ := own5.at1
    obtain ⟨-, lt3, row3, -⟩ := own5.at4
    go_wp2_with fail
    refine (LFollows_any s d _ (hk.below own5.below) hs hdsl).mono ?_
    rw [h7 ()]
    rintro e w6 ⟨rfl, hb6⟩
    have own6 := own5.call hb6
    clear own5 hb6 lt0 row0 lt3 row3
    go_wp2_with fail
    go_ret
    exact ⟨rfl, own6.below⟩
  · have hv : (encSt c)[101]? = some (.int .u32 x101) := hx101 ()
    have hb0 : 0 ≤ x101 ∧ x101 ≤ 4294967295 := by
      obtain ⟨k', hk', hh⟩ := st_cell c hcwf 101 .u32 (by kernel_rfl)
      rw [hv] at hk'
      simp only [Option.some.injEq, Value.int.injEq, true_and] at hk'
      subst hk'
      exact hh
    obtain ⟨d, hdwf, hde, hdne, hds, hdl, hdd⟩ := tweak c hcwf 101 .u32 x101 ((x101 + 1) % 4294967296) hv (show (0 : Int) ≤ (x101 + 1) % 4294967296 ∧ (x101 + 1) % 4294967296 ≤ 4294967295 by omega) (by omega) (by omega)
    clear hv hb0 hx0 hx97 hx98 hx99 hx100 hx101 hx140 hx361 hx362 g0 g101 g140 g361 hk0 hk101 hk140 hk361
    have h7 : ∀ _ : Unit, follows s d = 7 := fun _ => hfd d hdne hds hdl hdd
    clear hfd
    have hdsl : d.slot < 4294967296 := by rw [hds]; exact hcwf.slot
    clear hdne hds hdl hdd hdwf
    have own4 := (own3.alloc (encSt c) 35).alloc ((encSt c).setIfInBounds 101 (.int .u32 ((x101 + 1) % 4294967296))) 35
    have hsz : (w3.alloc (.cells (encSt c) 35)).heap.size = w3.heap.size + 1 := by simp
    simp only [List.cons_append, List.nil_append] at own4
    rw [hsz, hde] at own4
    rw [hde]
    generalize (World.alloc (World.alloc w3 _) _) = w4 at own4 ⊢
    clear own3 lt0 row0 lt1 row1 hsz hde
    obtain ⟨-, lt0, row0, -⟩ := own4.at1
    obtain ⟨-, lt2, row2, -⟩ := own4.at3
    obtain ⟨-, lt3, row3, -⟩ := own4.at4
    go_simp
    go_wp2_with fail
    refine (LFollows_any s c _ (hk.below own4.below) hs hcwf.slot).mono ?_
    rw [hfc ()]
    rintro e w5 ⟨rfl, hb5⟩
    have own5 := own4.call hb5
    clear own4 hb5 lt0 row0 lt2 row2 lt3 row3
    obtain ⟨-, lt0, row0, -⟩ := own5.at1
    obtain ⟨-, lt3, row3, -⟩ := own5.at4
    go_wp2_with fail
    refine (LFollows_any s d _ (hk.below own5.below) hs hdsl).mono ?_
    rw [h7 ()]
    rintro e w6 ⟨rfl, hb6⟩
    have own6 := own5.call hb6
    clear own5 hb6 lt0 row0 lt3 row3
    go_wp2_with fail
    go_ret
    exact ⟨rfl, own6.below⟩
  · have hv : (encSt c)[140]? = some (.int .u8 x140) := hx140 ()
    have hb0 : 0 ≤ x140 ∧ x140 ≤ 255 := by
      obtain ⟨k', hk', hh⟩ := st_cell c hcwf 140 .u8 (by kernel_rfl)
      rw [hv] at hk'
      simp only [Option.some.injEq, Value.int.injEq, true_and] at hk'
      subst hk'
      exact hh
    obtain ⟨d, hdwf, hde, hdne, hds, hdl, hdd⟩ := tweak c hcwf 140 .u8 x140 ((x140 + 1) % 256) hv (show (0 : Int) ≤ (x140 + 1) % 256 ∧ (x140 + 1) % 256 ≤ 255 by omega) (by omega) (by omega)
    clear hv hb0 hx0 hx97 hx98 hx99 hx100 hx101 hx140 hx361 hx362 g0 g101 g140 g361 hk0 hk101 hk140 hk361
    have h7 : ∀ _ : Unit, follows s d = 7 := fun _ => hfd d hdne hds hdl hdd
    clear hfd
    have hdsl : d.slot < 4294967296 := by rw [hds]; exact hcwf.slot
    clear hdne hds hdl hdd hdwf
    have own4 := (own3.alloc (encSt c) 35).alloc ((encSt c).setIfInBounds 140 (.int .u8 ((x140 + 1) % 256))) 35
    have hsz : (w3.alloc (.cells (encSt c) 35)).heap.size = w3.heap.size + 1 := by simp
    simp only [List.cons_append, List.nil_append] at own4
    rw [hsz, hde] at own4
    rw [hde]
    generalize (World.alloc (World.alloc w3 _) _) = w4 at own4 ⊢
    clear own3 lt0 row0 lt1 row1 hsz hde
    obtain ⟨-, lt0, row0, -⟩ := own4.at1
    obtain ⟨-, lt2, row2, -⟩ := own4.at3
    obtain ⟨-, lt3, row3, -⟩ := own4.at4
    go_simp
    go_wp2_with fail
    refine (LFollows_any s c _ (hk.below own4.below) hs hcwf.slot).mono ?_
    rw [hfc ()]
    rintro e w5 ⟨rfl, hb5⟩
    have own5 := own4.call hb5
    clear own4 hb5 lt0 row0 lt2 row2 lt3 row3
    obtain ⟨-, lt0, row0, -⟩ := own5.at1
    obtain ⟨-, lt3, row3, -⟩ := own5.at4
    go_wp2_with fail
    refine (LFollows_any s d _ (hk.below own5.below) hs hdsl).mono ?_
    rw [h7 ()]
    rintro e w6 ⟨rfl, hb6⟩
    have own6 := own5.call hb6
    clear own5 hb6 lt0 row0 lt3 row3
    go_wp2_with fail
    go_ret
    exact ⟨rfl, own6.below⟩
  · have hv : (encSt c)[361]? = some (.int .u8 x361) := hx361 ()
    have hb0 : 0 ≤ x361 ∧ x361 ≤ 255 := by
      obtain ⟨k', hk', hh⟩ := st_cell c hcwf 361 .u8 (by kernel_rfl)
      rw [hv] at hk'
      simp only [Option.some.injEq, Value.int.injEq, true_and] at hk'
      subst hk'
      exact hh
    obtain ⟨d, hdwf, hde, hdne, hds, hdl, hdd⟩ := tweak c hcwf 361 .u8 x361 ((x361 + 1) % 256) hv (show (0 : Int) ≤ (x361 + 1) % 256 ∧ (x361 + 1) % 256 ≤ 255 by omega) (by omega) (by omega)
    clear hv hb0 hx0 hx97 hx98 hx99 hx100 hx101 hx140 hx361 hx362 g0 g101 g140 g361 hk0 hk101 hk140 hk361
    have h7 : ∀ _ : Unit, follows s d = 7 := fun _ => hfd d hdne hds hdl hdd
    clear hfd
    have hdsl : d.slot < 4294967296 := by rw [hds]; exact hcwf.slot
    clear hdne hds hdl hdd hdwf
    have own4 := (own3.alloc (encSt c) 35).alloc ((encSt c).setIfInBounds 361 (.int .u8 ((x361 + 1) % 256))) 35
    have hsz : (w3.alloc (.cells (encSt c) 35)).heap.size = w3.heap.size + 1 := by simp
    simp only [List.cons_append, List.nil_append] at own4
    rw [hsz, hde] at own4
    rw [hde]
    generalize (World.alloc (World.alloc w3 _) _) = w4 at own4 ⊢
    clear own3 lt0 row0 lt1 row1 hsz hde
    obtain ⟨-, lt0, row0, -⟩ := own4.at1
    obtain ⟨-, lt2, row2, -⟩ := own4.at3
    obtain ⟨-, lt3, row3, -⟩ := own4.at4
    go_simp
    go_wp2_with fail
    refine (LFollows_any s c _ (hk.below own4.below) hs hcwf.slot).mono ?_
    rw [hfc ()]
    rintro e w5 ⟨rfl, hb5⟩
    have own5 := own4.call hb5
    clear own4 hb5 lt0 row0 lt2 row2 lt3 row3
    obtain ⟨-, lt0, row0, -⟩ := own5.at1
    obtain ⟨-, lt3, row3, -⟩ := own5.at4
    go_wp2_with fail
    refine (LFollows_any s d _ (hk.below own5.below) hs hdsl).mono ?_
    rw [h7 ()]
    rintro e w6 ⟨rfl, hb6⟩
    have own6 := own5.call hb6
    clear own5 hb6 lt0 row0 lt3 row3
    go_wp2_with fail
    go_ret
    exact ⟨rfl, own6.below⟩
  · have hv : (encSt c)[362]? = some (.int .u32 (c.epochs.next.length : Int)) := hx362 ()
    have hb0 : 0 ≤ (c.epochs.next.length : Int) ∧ (c.epochs.next.length : Int) ≤ 4294967295 := by
      obtain ⟨k', hk', hh⟩ := st_cell c hcwf 362 .u32 (by kernel_rfl)
      rw [hv] at hk'
      simp only [Option.some.injEq, Value.int.injEq, true_and] at hk'
      subst hk'
      exact hh
    obtain ⟨d, hdwf, hde, hdne, hds, hdl, hdd⟩ := tweak c hcwf 362 .u32 (c.epochs.next.length : Int) (((c.epochs.next.length : Int) + 1) % 4294967296) hv (show (0 : Int) ≤ ((c.epochs.next.length : Int) + 1) % 4294967296 ∧ ((c.epochs.next.length : Int) + 1) % 4294967296 ≤ 4294967295 by omega) (by omega) (by omega)
    clear hv hb0 hx0 hx97 hx98 hx99 hx100 hx101 hx140 hx361 hx362 g0 g101 g140 g361 hk0 hk101 hk140 hk361
    have h7 : ∀ _ : Unit, follows s d = 7 := fun _ => hfd d hdne hds hdl hdd
    clear hfd
    have hdsl : d.slot < 4294967296 := by rw [hds]; exact hcwf.slot
    clear hdne hds hdl hdd hdwf
    have own4 := (own3.alloc (encSt c) 35).alloc ((encSt c).setIfInBounds 362 (.int .u32 (((c.epochs.next.length : Int) + 1) % 4294967296))) 35
    have hsz : (w3.alloc (.cells (encSt c) 35)).heap.size = w3.heap.size + 1 := by simp
    simp only [List.cons_append, List.nil_append] at own4
    rw [hsz, hde] at own4
    rw [hde]
    generalize (World.alloc (World.alloc w3 _) _) = w4 at own4 ⊢
    clear own3 lt0 row0 lt1 row1 hsz hde
    obtain ⟨-, lt0, row0, -⟩ := own4.at1
    obtain ⟨-, lt2, row2, -⟩ := own4.at3
    obtain ⟨-, lt3, row3, -⟩ := own4.at4
    go_simp
    go_wp2_with fail
    refine (LFollows_any s c _ (hk.below own4.below) hs hcwf.slot).mono ?_
    rw [hfc ()]
    rintro e w5 ⟨rfl, hb5⟩
    have own5 := own4.call hb5
    clear own4 hb5 lt0 row0 lt2 row2 lt3 row3
    obtain ⟨-, lt0, row0, -⟩ := own5.at1
    obtain ⟨-, lt3, row3, -⟩ := own5.at4
    go_wp2_with fail
    refine (LFollows_any s d _ (hk.below own5.below) hs hdsl).mono ?_
    rw [h7 ()]
    rintro e w6 ⟨rfl, hb6⟩
    have own6 := own5.call hb6
    clear own5 hb6 lt0 row0 lt3 row3
    go_wp2_with fail
    go_ret
    exact ⟨rfl, own6.below⟩
  · have hv : (encSt c)[100]? = some (.int .u32 (c.win.ring.last : Int)) := hx100 ()
    have hb0 : 0 ≤ (c.win.ring.last : Int) ∧ (c.win.ring.last : Int) ≤ 4294967295 := by
      obtain ⟨k', hk', hh⟩ := st_cell c hcwf 100 .u32 (by kernel_rfl)
      rw [hv] at hk'
      simp only [Option.some.injEq, Value.int.injEq, true_and] at hk'
      subst hk'
      exact hh
    obtain ⟨d, hdwf, hde, hdne, hds, hdl, hdd⟩ := tweak c hcwf 100 .u32 (c.win.ring.last : Int) (((c.win.ring.last : Int) + 1) % 4294967296) hv (show (0 : Int) ≤ ((c.win.ring.last : Int) + 1) % 4294967296 ∧ ((c.win.ring.last : Int) + 1) % 4294967296 ≤ 4294967295 by omega) (by omega) (by omega)
    clear hv hb0 hx0 hx97 hx98 hx99 hx100 hx101 hx140 hx361 hx362 g0 g101 g140 g361 hk0 hk101 hk140 hk361
    have h7 : ∀ _ : Unit, follows s d = 7 := fun _ => hfd d hdne hds hdl hdd
    clear hfd
    have hdsl : d.slot < 4294967296 := by rw [hds]; exact hcwf.slot
    clear hdne hds hdl hdd hdwf
    have own4 := (own3.alloc (encSt c) 35).alloc ((encSt c).setIfInBounds 100 (.int .u32 (((c.win.ring.last : Int) + 1) % 4294967296))) 35
    have hsz : (w3.alloc (.cells (encSt c) 35)).heap.size = w3.heap.size + 1 := by simp
    simp only [List.cons_append, List.nil_append] at own4
    rw [hsz, hde] at own4
    rw [hde]
    generalize (World.alloc (World.alloc w3 _) _) = w4 at own4 ⊢
    clear own3 lt0 row0 lt1 row1 hsz hde
    obtain ⟨-, lt0, row0, -⟩ := own4.at1
    obtain ⟨-, lt2, row2, -⟩ := own4.at3
    obtain ⟨-, lt3, row3, -⟩ := own4.at4
    go_simp
    go_wp2_with fail
    refine (LFollows_any s c _ (hk.below own4.below) hs hcwf.slot).mono ?_
    rw [hfc ()]
    rintro e w5 ⟨rfl, hb5⟩
    have own5 := own4.call hb5
    clear own4 hb5 lt0 row0 lt2 row2 lt3 row3
    obtain ⟨-, lt0, row0, -⟩ := own5.at1
    obtain ⟨-, lt3, row3, -⟩ := own5.at4
    go_wp2_with fail
    refine (LFollows_any s d _ (hk.below own5.below) hs hdsl).mono ?_
    rw [h7 ()]
    rintro e w6 ⟨rfl, hb6⟩
    have own6 := own5.call hb6
    clear own5 hb6 lt0 row0 lt3 row3
    go_wp2_with fail
    go_ret
    exact ⟨rfl, own6.below⟩
end Go.Proofs.YtpoaakdljpdkfaaDoor

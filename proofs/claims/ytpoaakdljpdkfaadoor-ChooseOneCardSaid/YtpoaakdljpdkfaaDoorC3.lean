/- THE WALKS OF ring, further. -/
import Derived.Test.YtpoaakdljpdkfaaDoorC2
import Derived.Lib.SliceRun
set_option linter.unusedSimpArgs false
set_option linter.unusedVariables false
namespace Go.Proofs.YtpoaakdljpdkfaaDoor
open Go.RowKit Go.Alm

theorem c4_put_enc (c : C4) (k v : Nat) : (encC c).setIfInBounds k (.int .u32 (v : Int)) = encC (c.put k v) := by
  apply Array.toList_inj.1
  simp [encC, encCL, C4.put, List.map_set]
theorem set_rg_at (x : Rg) (k v : Nat) (h : k < 4) : (encRg x).setIfInBounds (1 + k) (.int .u32 (v : Int)) = encRg { x with counts := x.counts.put k v } := by
  have := spl_sub (i := 1) (n := 4) (dec_rg_counts x) (off_rg_counts x) (len_encCL _) k [.int .u32 (v : Int)] (by simp; omega) (c4_put_enc x.counts k v)
  refine Eq.trans this ?_
  rw [encRg, dec_rg_counts]
@[go_sem] theorem rg_mod (x : Rg) (k : Nat) : (encRg x)[1 + k % 4]? = some (.int .u32 (x.counts.get (k % 4) : Nat)) := rg_at x _ (by omega)
@[go_sem] theorem g_rg_mod (x : Rg) (k : Nat) (h : 1 + k % 4 < (encRg x).size) : (encRg x)[1 + k % 4]'h = .int .u32 (x.counts.get (k % 4) : Nat) := Option.some.inj ((Array.getElem?_eq_getElem h).symm.trans (rg_mod x k))
@[go_sem] theorem set_rg_mod (x : Rg) (k v : Nat) : (encRg x).setIfInBounds (1 + k % 4) (.int .u32 (v : Int)) = encRg { x with counts := x.counts.put (k % 4) v } := set_rg_at x _ v (by omega)
@[go_sem] theorem set_rg_mod0 (x : Rg) (k : Nat) : (encRg x).setIfInBounds (1 + k % 4) (.int .u32 0) = encRg { x with counts := x.counts.put (k % 4) 0 } := set_rg_at x _ 0 (by omega)

theorem run_clearC (w : World) (ty : TypeId) (b : Nat) (h : 5 ≤ (w.rowD b).size) (hf : ∀ i, w.frozen? ⟨b, i, none⟩ = false) :
    (Builtin.clear_ #[50] ty #[.slice (some ⟨b, 1, none⟩) 4 4]).run Tryd.prog w = .ok (.tuple #[]) (w.setCells b 1 (encC zeroC).toList) :=
  Lib.run_clear_slice w 50 24 ty (.int .u32 0) (by kernel_rfl) (fun _ => by kernel_rfl) rfl rfl b 1 4 4 (by omega) (fun j hj => by rw [cell_rowD, Array.getElem?_eq_getElem (by omega)]; rfl) (fun j hj => hf _)

def cleared (last : Nat) (c : C4) (k : Nat) : C4 := (List.range k).foldl (fun c i => c.put ((last % 4 + 1 + i) % 4) 0) c
theorem cleared_succ (last : Nat) (c : C4) (k : Nat) : cleared last c (k + 1) = (cleared last c k).put ((last % 4 + 1 + k) % 4) 0 := by simp [cleared, List.range_succ]

set_option maxRecDepth 20000 in
theorem passed_any (r : Rg) (s : Nat) (w : World) (hl : r.last < s) (hs : s < 4294967296) :
    Calls Tryd.prog 119 #[.agg (encRg r), .int .u32 s] w fun e w' => e = .returned (.agg (encRg ⟨r.last, passedC r.last r.counts s⟩)) ∧ Below w.heap.size w w' := by
  have hl' : r.last < 4294967296 := by omega
  have hg : s - r.last - 1 < 4294967296 := by omega
  have e0 : ((s : Int) - (r.last : Int) - 1) = ((s - r.last - 1 : Nat) : Int) := by omega
  unfold passedC
  generalize hgone : s - r.last - 1 = gone at *
  by_cases h4 : 4 ≤ gone
  · simp only [if_pos h4, show min gone 4 = 4 by omega]
    rw [show (List.range 4).foldl _ zeroC = cleared r.last zeroC 4 from rfl]
    generalize hV : Value.agg (encRg ⟨r.last, cleared r.last zeroC 4⟩) = V
    replace hV := hV.symm
    rcases (show gone = 4 ∨ 4 < gone by omega) with rfl | h5
    all_goals (
      go_enter Tryd.func119, Tryd.ntmps119
      go_wp2_with fail
      generalize hW : World.alloc (World.alloc w _) _ = W
      have own : Owns w W [(w.heap.size, encRg r), (w.heap.size + 1, encRg ring0)] := hW ▸ own_two w _ _ _ _
      clear hW
      obtain ⟨-, lt0, row0, fr0⟩ := own.at1
      obtain ⟨-, lt0', row0', fr0'⟩ := own.at2
      have hc := run_clearC W 0 w.heap.size (by rw [row0, size_encRg]; omega) fr0
      rw [hc]
      simp only [Result.andThen_ok, Oper.upon]
      go_wp2_with fail
      have ownc : Owns w (W.setCells w.heap.size 1 (encC zeroC).toList) [(w.heap.size, encRg ⟨r.last, cleared r.last zeroC 0⟩), (w.heap.size + 1, encRg ring0)] := by
        have := own.setCells w.heap.size 1 (encC zeroC).toList (Nat.le_refl _)
        simp only [List.map_cons, List.map_nil, if_true, set_rg_counts, show ¬ w.heap.size + 1 = w.heap.size by omega, if_false] at this
        exact this
      go_loopw [18] (fun i wr => ∃ k : Nat, k ≤ 4 ∧ i = .int .u32 k ∧ Owns w wr [(w.heap.size, encRg ⟨r.last, cleared r.last zeroC k⟩), (w.heap.size + 1, encRg ring0)])
        (fun i _ => 4 - (intOf i).toNat)
      case atStart => exact ⟨0, Nat.zero_le _, rfl, ownc⟩
      case round =>
        obtain ⟨k, hk, rfl, own1⟩ := hrel
        obtain ⟨-, lt, row, fr⟩ := own1.at1
        obtain ⟨-, lt', row', fr'⟩ := own1.at2
        by_cases hend : k = 4
        · subst hend
          go_wp2_with fail
          exact ret_cell rfl rfl rfl (rWRg _ _ _ (by rw [rowD_setCells_same, row', all_rg])) ⟨by rw [hV], below_setCells _ (by omega) _ _ _ _ own1.below⟩
        · have hR := fun w => Ring_any (r.last % 4 + 1 + k) w (by omega)
          have e4 : ((r.last % 4 + 1 + k : Nat) : Int) = (r.last : Int) % 4 + 1 + (k : Int) := by omega
          rw [e4] at hR
          have hcl := cleared_succ r.last zeroC k
          go_wp2_with fail
          refine (hR _).mono ?_
          rintro e w1 ⟨rfl, hb1⟩
          have own2 := own1.call hb1
          obtain ⟨-, lt1, row1, fr1⟩ := own2.at1
          go_wp2_with fail
          go_roundw
          case rel =>
            refine ⟨k + 1, by omega, by go_num, ?_⟩
            have := own2.setCell w.heap.size (1 + (r.last % 4 + 1 + k) % 4) (.int .u32 0) (Nat.le_refl _)
            simp only [List.map_cons, List.map_nil, if_true, show ¬ w.heap.size + 1 = w.heap.size by omega, if_false, set_rg_mod0, ← hcl] at this
            exact this
          case measure => simp [intOf]; omega)
  · simp only [if_neg h4, show min gone 4 = gone by omega]
    rw [show (List.range gone).foldl _ r.counts = cleared r.last r.counts gone from rfl]
    generalize hV : Value.agg (encRg ⟨r.last, cleared r.last r.counts gone⟩) = V
    replace hV := hV.symm
    have hgm : min (gone : Int) 4 = (gone : Int) := by omega
    go_enter Tryd.func119, Tryd.ntmps119
    go_wp2_with fail
    generalize hW : World.alloc (World.alloc w _) _ = W
    have own : Owns w W [(w.heap.size, encRg r), (w.heap.size + 1, encRg ring0)] := hW ▸ own_two w _ _ _ _
    clear hW
    go_loopw [18] (fun i wr => ∃ k : Nat, k ≤ gone ∧ i = .int .u32 k ∧ Owns w wr [(w.heap.size, encRg ⟨r.last, cleared r.last r.counts k⟩), (w.heap.size + 1, encRg ring0)])
      (fun i _ => gone - (intOf i).toNat)
    case atStart => exact ⟨0, Nat.zero_le _, rfl, own⟩
    case round =>
      obtain ⟨k, hk, rfl, own1⟩ := hrel
      obtain ⟨-, lt, row, fr⟩ := own1.at1
      obtain ⟨-, lt', row', fr'⟩ := own1.at2
      by_cases hend : k = gone
      · subst hend
        go_wp2_with fail
        exact ret_cell rfl rfl rfl (rWRg _ _ _ (by rw [rowD_setCells_same, row', all_rg])) ⟨by rw [hV], below_setCells _ (by omega) _ _ _ _ own1.below⟩
      · have hR := fun w => Ring_any (r.last % 4 + 1 + k) w (by omega)
        have e4 : ((r.last % 4 + 1 + k : Nat) : Int) = (r.last : Int) % 4 + 1 + (k : Int) := by omega
        rw [e4] at hR
        have hcl := cleared_succ r.last r.counts k
        go_wp2_with fail
        refine (hR _).mono ?_
        rintro e w1 ⟨rfl, hb1⟩
        have own2 := own1.call hb1
        obtain ⟨-, lt1, row1, fr1⟩ := own2.at1
        go_wp2_with fail
        go_roundw
        case rel =>
          refine ⟨k + 1, by omega, by go_num, ?_⟩
          have := own2.setCell w.heap.size (1 + (r.last % 4 + 1 + k) % 4) (.int .u32 0) (Nat.le_refl _)
          simp only [List.map_cons, List.map_nil, if_true, show ¬ w.heap.size + 1 = w.heap.size by omega, if_false, set_rg_mod0, ← hcl] at this
          exact this
        case measure => simp [intOf]; omega
end Go.Proofs.YtpoaakdljpdkfaaDoor

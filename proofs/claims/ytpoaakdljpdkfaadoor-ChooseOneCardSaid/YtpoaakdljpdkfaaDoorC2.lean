/- THE WALKS OF ring: what each of these functions answers. -/
import Derived.Test.YtpoaakdljpdkfaaDoorC1
import Derived.Test.YtpoaakdljpdkfaaDoorEq
set_option linter.unusedSimpArgs false
set_option linter.unusedVariables false
namespace Go.Proofs.YtpoaakdljpdkfaaDoor
open Go.RowKit Go.Alm

theorem more_any (a b : Nat) (w : World) (h0 : a < 4294967296) (h1 : b < 4294967296) :
    Calls Tryd.prog 61 #[.int .u32 a, .int .u32 b] w fun e w' => e = .returned (if a + b < 4294967296 then .tuple #[.int .u32 ((a : Int) + (b : Int)), .int .i64 0] else .tuple #[.int .u32 0, .int .i64 5]) ∧ Below w.heap.size w w' := by
  generalize hv : (if a + b < 4294967296 then Value.tuple #[.int .u32 ((a : Int) + (b : Int)), .int .i64 0] else .tuple #[.int .u32 0, .int .i64 5]) = V
  replace hv := hv.symm
  go_enter Tryd.func61, Tryd.ntmps61
  go_wp2_with fail
  refine (Add32_any a b _ h0 h1).mono ?_
  rintro e w1 ⟨rfl, hb⟩
  by_cases h : a + b < 4294967296
  · rw [if_pos h] at hv ⊢
    go_wp2
    go_ret2
    exact ⟨congrArg _ hv.symm, hb⟩
  · rw [if_neg h] at hv ⊢
    go_wp2
    go_ret2
    exact ⟨congrArg _ hv.symm, hb⟩

theorem run_index_arr {P : Program} (T e : TypeId) (n : Nat) (cs : Array Value) (k : IntKind) (i : Int) (v : Value) (h : P.underlying T = some (.array n e)) (hu : ∀ w, (isAgg e).run P w = .ok false w) (hs : ∀ w, (Go.sizeOf e).run P w = .ok 1 w)
    (h0 : 0 ≤ i) (h1 : i < n) (hv : cs[i.toNat]? = some v) (w : World) : (Instr.index T (.agg cs) (.int k i)).run P w = .ok v w := by
  simp [Instr.index, run_underlying h, asIntOf, h0, h1, part, hu, hs, hv, go_sem]
theorem c4_cell (c : C4) (k : Nat) (h : k < 4) : (encC c)[k]? = some (.int .u32 (c.get k : Nat)) := by
  have := c.len
  simp [encC, encCL, C4.get, List.getD_eq_getElem?_getD, List.getElem?_eq_getElem (show k < c.l.length by omega)]
@[go_sem] theorem rIC (c : C4) (i : Int) (h0 : 0 ≤ i) (h1 : i < 4) (w : World) : (Instr.index 25 (.agg (encC c)) (.int .i64 i)).run Tryd.prog w = .ok (.int .u32 (c.get i.toNat : Nat)) w :=
  run_index_arr 25 24 4 _ _ _ _ (by kernel_rfl) (fun _ => by kernel_rfl) (fun _ => by kernel_rfl) h0 h1 (c4_cell c _ (by omega)) w
@[go_sem] theorem c4_cell0 (c : C4) : (encC c)[0]? = some (.int .u32 (c.get 0 : Nat)) := c4_cell c 0 (by omega)
@[go_sem] theorem c4_cell1 (c : C4) : (encC c)[1]? = some (.int .u32 (c.get 1 : Nat)) := c4_cell c 1 (by omega)
@[go_sem] theorem c4_cell2 (c : C4) : (encC c)[2]? = some (.int .u32 (c.get 2 : Nat)) := c4_cell c 2 (by omega)
@[go_sem] theorem c4_cell3 (c : C4) : (encC c)[3]? = some (.int .u32 (c.get 3 : Nat)) := c4_cell c 3 (by omega)
theorem c4_list (c : C4) : c.l = [c.get 0, c.get 1, c.get 2, c.get 3] := by
  obtain ⟨l, h⟩ := c
  match l, h with
  | [a, b, c, d], _ => rfl

set_option maxRecDepth 20000 in
theorem Sum_any (r : Rg) (w : World) :
    Calls Tryd.prog 148 #[.agg (encRg r)] w fun e w' => e = .returned (.int .u32 (sum4 r.counts : Nat)) ∧ Below w.heap.size w w' := by
  go_enter Tryd.func148, Tryd.ntmps148
  go_wp2_with fail
  have hb0 : Below w.heap.size w (w.alloc (.cells (encRg r) 27)) := (Below.refl _ _).alloc (Nat.le_refl _) _
  refine wp_loop_rounds 5 ?_
  rw [rounds_succ]; go_wp2_with fail
  rw [rounds_succ]; go_wp2_with fail
  rw [rounds_succ]; go_wp2_with fail
  rw [rounds_succ]; go_wp2_with fail
  rw [rounds_succ]; go_wp2_with fail
  go_ret
  refine ⟨?_, hb0⟩
  simp only [sum4, c4_list r.counts, List.foldl]
  show Ending.returned (.int .u32 _) = _
  congr 2
  omega

@[go_sem] theorem bldRgLast (x0 : Nat) (w : World) : (buildK 27 #[(0, .int .u32 (x0 : Int))]).run Tryd.prog w = .ok (.value (.agg (encRg ⟨x0, zeroC⟩))) w := by
  refine (bldRg #[(0, .int .u32 (x0 : Int))] ⟨⟨0, 1, rfl, rfl, by omega⟩, trivial⟩ w).trans ?_
  simp only [layAll, List.getElem?_toArray, List.getElem?_cons_zero, List.getElem?_cons_succ, Option.getD_some, Value.cells, spliceL, set_rg_last]
  rfl

theorem rg_at (x : Rg) (k : Nat) (h : k < 4) : (encRg x)[1 + k]? = some (.int .u32 (x.counts.get k : Nat)) :=
  (get_sub (i := 1) (n := 4) (dec_rg_counts x) (off_rg_counts x) (len_encCL _) k h).trans (c4_cell x.counts k h)

set_option maxRecDepth 20000 in
theorem RRight_any (r : Rg) (w : World) (hl : r.last < 4294967296) :
    Calls Tryd.prog 91 #[.agg (encRg r)] w fun e w' => e = .returned (.bool (ringRight r)) ∧ Below w.heap.size w w' := by
  have e1 : ringRight r = (decide (r.counts.get 0 ≤ 3) && (decide (r.counts.get 1 ≤ 3) && (decide (r.counts.get 2 ≤ 3) && decide (r.counts.get 3 ≤ 3))) && (r.counts != zeroC) && decide (0 < r.counts.get (r.last % 4))) := by
    unfold ringRight
    rw [c4_list r.counts]
    simp
  rw [e1]
  clear e1
  generalize hv : Value.bool (decide (r.counts.get 0 ≤ 3) && (decide (r.counts.get 1 ≤ 3) && (decide (r.counts.get 2 ≤ 3) && decide (r.counts.get 3 ≤ 3))) && (r.counts != zeroC) && decide (0 < r.counts.get (r.last % 4))) = V
  replace hv := hv.symm
  go_enter Tryd.func91, Tryd.ntmps91
  go_wp2_with fail
  generalize hW : World.alloc w _ = W
  have own : Owns w W [(w.heap.size, encRg r)] := hW ▸ own_one w _ _
  obtain ⟨-, lt, row, fr⟩ := own.at1
  have hb0 := own.below
  clear hW
  refine wp_loop_rounds 5 ?_
  rw [rounds_succ]
  by_cases h0 : r.counts.get 0 ≤ 3
  rotate_left
  · go_wp2_with fail
    go_ret
    exact ⟨by rw [hv]; simp [h0], hb0⟩
  go_wp2_with fail
  rw [rounds_succ]
  by_cases h1 : r.counts.get 1 ≤ 3
  rotate_left
  · go_wp2_with fail
    go_ret
    exact ⟨by rw [hv]; simp [h1], hb0⟩
  go_wp2_with fail
  rw [rounds_succ]
  by_cases h2 : r.counts.get 2 ≤ 3
  rotate_left
  · go_wp2_with fail
    go_ret
    exact ⟨by rw [hv]; simp [h2], hb0⟩
  go_wp2_with fail
  rw [rounds_succ]
  by_cases h3 : r.counts.get 3 ≤ 3
  rotate_left
  · go_wp2_with fail
    go_ret
    exact ⟨by rw [hv]; simp [h3], hb0⟩
  go_wp2_with fail
  rw [rounds_succ]
  by_cases hz : r.counts = zeroC
  · have hz' : ∀ w, (Op.equalIn 10000 27 (.agg (encRg r)) (.agg (encRg ⟨r.last, zeroC⟩))).run Tryd.prog w = .ok true w := fun w => by
      rw [eqRg 9997 w r ⟨r.last, zeroC⟩, decide_eq_true (show r = ⟨r.last, zeroC⟩ by rw [← hz])]
    have hv' : V = .bool false := by rw [hv, hz]; simp
    clear hz
    go_wp2_with fail
    go_ret
    exact ⟨by rw [hv']; rfl, hb0⟩
  · have hz' : ∀ w, (Op.equalIn 10000 27 (.agg (encRg r)) (.agg (encRg ⟨r.last, zeroC⟩))).run Tryd.prog w = .ok false w := fun w => by
      rw [eqRg 9997 w r ⟨r.last, zeroC⟩, decide_eq_false (fun h => hz (congrArg Rg.counts h))]
    go_wp2_with fail
    refine (Ring_any _ _ hl).mono ?_
    rintro e w1 ⟨rfl, hb1⟩
    have own1 := own.call hb1
    obtain ⟨-, lt1, row1, fr1⟩ := own1.at1
    have hb2 := own1.below
    have hc : (encRg r)[1 + r.last % 4]? = some (.int .u32 (r.counts.get (r.last % 4) : Nat)) := rg_at r _ (by omega)
    go_wp2_with fail
    go_ret
    refine ⟨?_, hb2⟩
    rw [hv]
    simp [h0, h1, h2, h3, hz]
end Go.Proofs.YtpoaakdljpdkfaaDoor

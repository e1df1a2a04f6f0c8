/- THE WALK OF order.by AND order.Compare. -/
import Derived.Test.YtpoaakdljpdkfaaDoorC35
set_option linter.unusedSimpArgs false
set_option linter.unusedVariables false
namespace Go.Proofs.YtpoaakdljpdkfaaDoor
open Go.RowKit Go.Alm
def ordFs : Array Value := #[.func (.func 88) #[] #[], .func (.func 89) #[] #[], .func (.func 90) #[] #[]]
set_option maxRecDepth 20000 in
set_option maxHeartbeats 1000000 in
theorem by_any (a b : Ky) (q : Nat) (w : World) (hq : q < w.heap.size) (row : w.rowD q = ordFs) :
    Calls Tryd.prog 87 #[.agg (encKy a), .agg (encKy b), .slice (some ⟨q, 0, none⟩) 3 3] w fun e w' => e = .returned (.int .i64 (compareK a b)) ∧ Below w.heap.size w w' := by
  have hV : ∀ _ : Unit, compareK a b = if cmpN a.length b.length ≠ 0 then cmpN a.length b.length else if cmpL a.draw.l b.draw.l ≠ 0 then cmpL a.draw.l b.draw.l else cmpL a.hash.l b.hash.l := fun _ => rfl
  go_enter Tryd.func87, Tryd.ntmps87
  go_wp2_with fail
  generalize hW : World.alloc (World.alloc w _) _ = W
  have own : Owns w W [(w.heap.size, encKy a), (w.heap.size + 1, encKy b)] := hW ▸ own_two w _ _ _ _
  clear hW
  have rowW : W.rowD q = ordFs := (rowD_congr (own.below.block q hq)).trans row
  have ltW : q < W.heap.size := Nat.lt_of_lt_of_le hq own.below.size
  clear row
  obtain ⟨-, lt0, row0, -⟩ := own.at1
  obtain ⟨-, lt1, row1, -⟩ := own.at2
  refine wp_loop_rounds 4 ?_
  rw [rounds_succ]
  unfold ordFs at rowW
  go_wp2_with fail
  have own0 := own; have rowW0 := rowW; have ltW0 := ltW
  clear own rowW ltW
  refine (longer_any a b _).mono ?_
  rintro e w1 ⟨rfl, hb1⟩
  have own1 := own0.call hb1
  have rowW1 := (rowD_congr (hb1.block q ltW0)).trans rowW0
  have ltW1 := Nat.lt_of_lt_of_le ltW0 hb1.size
  clear own0 rowW0 ltW0 hb1 lt0 row0 lt1 row1
  obtain ⟨-, lt0, row0, -⟩ := own1.at1
  obtain ⟨-, lt1, row1, -⟩ := own1.at2
  by_cases h1 : cmpN a.length b.length = 0
  rotate_left
  · have f1 : (cmpN a.length b.length != 0) = true := by simpa using h1
    go_wp2_with fail
    go_ret
    exact ⟨by rw [hV (), if_pos h1]; rfl, own1.below⟩
  have f1 : (cmpN a.length b.length != 0) = false := by rw [h1]; rfl
  go_wp2_with fail
  rw [rounds_succ]
  go_wp2_with fail
  refine (drawn_any a b _).mono ?_
  rintro e w2 ⟨rfl, hb2⟩
  have own2 := own1.call hb2
  have rowW2 := (rowD_congr (hb2.block q ltW1)).trans rowW1
  have ltW2 := Nat.lt_of_lt_of_le ltW1 hb2.size
  clear own1 rowW1 ltW1 hb2 lt0 row0 lt1 row1
  obtain ⟨-, lt0, row0, -⟩ := own2.at1
  obtain ⟨-, lt1, row1, -⟩ := own2.at2
  by_cases h2 : cmpL a.draw.l b.draw.l = 0
  rotate_left
  · have f2 : (cmpL a.draw.l b.draw.l != 0) = true := by simpa using h2
    go_wp2_with fail
    go_ret
    exact ⟨by rw [hV (), if_neg (by simpa using h1), if_pos h2]; rfl, own2.below⟩
  have f2 : (cmpL a.draw.l b.draw.l != 0) = false := by rw [h2]; rfl
  go_wp2_with fail
  rw [rounds_succ]
  go_wp2_with fail
  refine (named_any a b _).mono ?_
  rintro e w3 ⟨rfl, hb3⟩
  have own3 := own2.call hb3
  have rowW3 := (rowD_congr (hb3.block q ltW2)).trans rowW2
  have ltW3 := Nat.lt_of_lt_of_le ltW2 hb3.size
  clear own2 rowW2 ltW2 hb3 lt0 row0 lt1 row1
  obtain ⟨-, lt0, row0, -⟩ := own3.at1
  obtain ⟨-, lt1, row1, -⟩ := own3.at2
  replace hV : ∀ _ : Unit, compareK a b = cmpL a.hash.l b.hash.l := fun _ => by rw [hV (), if_neg (by simpa using h1), if_neg (by simpa using h2)]
  by_cases h3 : cmpL a.hash.l b.hash.l = 0
  rotate_left
  · have f3 : (cmpL a.hash.l b.hash.l != 0) = true := by simpa using h3
    go_wp2_with fail
    go_ret
    exact ⟨by rw [hV ()]; rfl, own3.below⟩
  have f3 : (cmpL a.hash.l b.hash.l != 0) = false := by rw [h3]; rfl
  go_wp2_with fail
  rw [rounds_succ]
  go_wp2_with fail
  go_ret
  exact ⟨by rw [hV (), h3]; rfl, own3.below⟩
set_option maxRecDepth 20000 in
theorem OCompare_any (a b : Ky) (w : World) : Calls Tryd.prog 54 #[.agg (encKy a), .agg (encKy b)] w fun e w' => e = .returned (.int .i64 (compareK a b)) ∧ Below w.heap.size w w' := by
  go_enter Tryd.func54, Tryd.ntmps54
  go_wp2_with fail
  generalize hW : World.alloc (World.alloc w _) _ = W
  have own : Owns w W [(w.heap.size, encKy a), (w.heap.size + 1, encKy b)] := hW ▸ own_two w _ _ _ _
  have hsz : W.heap.size = w.heap.size + 1 + 1 := by rw [← hW]; simp
  clear hW
  have own2 := own.alloc ordFs 112
  rw [hsz] at own2
  refine (by_any a b (w.heap.size + 1 + 1) _ own2.at3.2.1 own2.at3.2.2.1).mono ?_
  rintro e w1 ⟨rfl, hb1⟩
  go_wp2_with fail
  go_ret
  exact ⟨rfl, (own2.call hb1).below⟩
end Go.Proofs.YtpoaakdljpdkfaaDoor

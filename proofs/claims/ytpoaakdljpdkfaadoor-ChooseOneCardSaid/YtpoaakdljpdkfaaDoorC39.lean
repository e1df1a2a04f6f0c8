/- THE WALK OF choose.Fold. -/
import Derived.Test.YtpoaakdljpdkfaaDoorC38
set_option linter.unusedSimpArgs false
set_option linter.unusedVariables false
namespace Go.Alm
theorem foldT_yes (t : St) (l : List St) (k n : Nat) (hk : k < l.length) (h : wins t l[k] = true) : foldT t (l.drop k) n = foldT l[k] (l.drop (k + 1)) (n + 1) := by
  rw [List.drop_eq_getElem_cons hk, foldT, if_pos h]
theorem foldT_no (t : St) (l : List St) (k n : Nat) (hk : k < l.length) (h : wins t l[k] = false) : foldT t (l.drop k) n = foldT t (l.drop (k + 1)) n := by
  rw [List.drop_eq_getElem_cons hk, foldT, if_neg (by simp [h])]
end Go.Alm
namespace Go.Proofs.YtpoaakdljpdkfaaDoor
open Go.RowKit Go.Alm
set_option maxRecDepth 20000 in
set_option maxHeartbeats 2000000 in
theorem Fold_any (tip : St) (l : List St) (ao : Option Addr) (cap : Nat) (w : World) (hk : Keyed w) (ht : tip.Wf) (hl : ∀ s ∈ l, s.Wf) (hlen : l.length < 1000000) (hs : AtS w ao l.length 363 (encSts l)) :
    Calls Tryd.prog 33 #[.agg (encSt tip), .slice ao l.length cap] w fun e w' => e = .returned (.tuple #[.agg (encSt (foldT tip l 0).1), .int .i64 ((foldT tip l 0).2 : Nat)]) ∧ Below w.heap.size w w' := by
  go_enter Tryd.func33, Tryd.ntmps33
  go_wp2_with fail
  generalize hW : World.alloc (World.alloc w _) _ = W
  have own : Owns w W [(w.heap.size, encSt tip), (w.heap.size + 1, encSt state0)] := hW ▸ own_two w _ _ _ _
  clear hW
  go_loopw [6, 11] (fun c i wr => ∃ (k n : Nat) (t : St), k ≤ l.length ∧ n ≤ k ∧ c = .int .i64 n ∧ i = .int .i64 k ∧ t.Wf ∧ (∀ _ : Unit, foldT tip l 0 = foldT t (l.drop k) n) ∧ Owns w wr [(w.heap.size, encSt t), (w.heap.size + 1, encSt state0)])
    (fun _ i _ => l.length - (intOf i).toNat)
  case atStart => exact ⟨0, 0, tip, Nat.zero_le _, Nat.zero_le _, rfl, rfl, ht, fun _ => rfl, own⟩
  case round =>
    obtain ⟨k, n, t, hkl, hnk, rfl, rfl, htw, hf, own3⟩ := hrel
    obtain ⟨-, lt0, row0, fr0⟩ := own3.at1
    obtain ⟨-, lt1, row1, fr1⟩ := own3.at2
    by_cases hend : k = l.length
    · have hfin : ∀ _ : Unit, foldT tip l 0 = (t, n) := fun _ => by rw [hf (), List.drop_eq_nil_of_le (by omega)]; rfl
      clear hf
      subst hend
      go_wp2_with fail
      exact ret_cell_tmp rfl rfl rfl (rWSt _ _ _ (by rw [rowD_setCells_same, row1, all_st])) ⟨by rw [hfin ()]; rfl, below_setCells _ (by omega) _ _ _ _ own3.below⟩
    · have hlt : k < l.length := by omega
      obtain ⟨q, o, rfl, hq, hrow⟩ := (hs.resolve_left (by omega))
      obtain ⟨hle, hget⟩ := AtS.get (by omega) encSt (fun b => size_encSt b) l rfl hrow k hlt
      have hqr : q < wr.heap.size := Nat.lt_of_lt_of_le hq own3.below.size
      rw [← rowD_congr (own3.below.block q hq)] at hle hget
      have hcw := hl _ (List.getElem_mem hlt)
      have hy := fun n => foldT_yes t l k n hlt
      have hn := fun n => foldT_no t l k n hlt
      generalize l[k] = s at hget hcw hy hn
      clear hs hrow
      go_wp2_with fail
      have own4 := own3.alloc (encSt s) 35
      refine (Wins_any t s _ (hk.below own4.below) htw hcw).mono ?_
      generalize World.alloc wr _ = w4 at own4 ⊢
      have hc8 : w.heap.size + 1 < wr.heap.size := lt1
      generalize wr.heap.size = c8 at own4 hc8 ⊢
      rintro e w5 ⟨rfl, hb5⟩
      have own5 := own4.call hb5
      simp only [List.cons_append, List.nil_append] at own5
      clear own3 own4 lt0 row0 fr0 lt1 row1 fr1 hqr hle hget hb5
      obtain ⟨-, lt0, row0, fr0⟩ := own5.at1
      obtain ⟨-, lt2, row2, fr2⟩ := own5.at3
      by_cases hwn : wins t s = true
      · have hf' : ∀ _ : Unit, foldT tip l 0 = foldT s (l.drop (k + 1)) (n + 1) := fun _ => (hf ()).trans (hy n hwn)
        clear hf hy hn
        go_wp2_with fail
        have own6 := own5.setCells w.heap.size 0 (encSt s).toList (by omega)
        simp only [List.map_cons, List.map_nil, if_true, if_neg (show ¬ w.heap.size + 1 = w.heap.size by omega), if_neg (show ¬ c8 = w.heap.size by omega), all_st] at own6
        exact ⟨⟨k + 1, n + 1, s, by omega, by omega, by go_num, by go_num, hcw, hf', own6.sub (by intro p hp; simp only [List.mem_cons, List.not_mem_nil, or_false] at hp ⊢; rcases hp with h | h; exact .inl h; exact .inr (.inl h))⟩, by simp [intOf]; omega⟩
      · replace hwn : wins t s = false := by simpa using hwn
        have hf' : ∀ _ : Unit, foldT tip l 0 = foldT t (l.drop (k + 1)) n := fun _ => (hf ()).trans (hn n hwn)
        clear hf hy hn
        go_wp2_with fail
        exact ⟨⟨k + 1, n, t, by omega, by omega, rfl, by go_num, htw, hf', own5.sub (by intro p hp; simp only [List.mem_cons, List.not_mem_nil, or_false] at hp ⊢; rcases hp with h | h; exact .inl h; exact .inr (.inl h))⟩, by simp [intOf]; omega⟩
end Go.Proofs.YtpoaakdljpdkfaaDoor

/- THE WALK OF LinkOne's awake. -/
import Derived.Test.YtpoaakdljpdkfaaDoorC32
set_option linter.unusedSimpArgs false
set_option linter.unusedVariables false
namespace Go.Alm
def aw11g : St := genesis h1
def aw11a : St := (child aw11g ⟨3, zeroH, zeroH⟩).1
def aw11b : St := (child aw11a ⟨9, zeroH, zeroH⟩).1
theorem aw11_a : (child aw11g ⟨3, zeroH, zeroH⟩).2 = 0 := by kernel_rfl
theorem aw11_b : (child aw11a ⟨9, zeroH, zeroH⟩).2 = 0 := by kernel_rfl
theorem aw11_key : (⟨aw11a.slot, aw11a.ledger, aw11a.draw⟩ : Bk) = ⟨3, zeroH, zeroH⟩ := by kernel_rfl
theorem aw11_keyb : (⟨aw11b.slot, aw11b.ledger, aw11b.draw⟩ : Bk) = ⟨9, zeroH, zeroH⟩ := by kernel_rfl
theorem aw11_gwf : aw11g.Wf := genesis_wf h1
theorem aw11_awf : aw11a.Wf := child_wf aw11_gwf (by decide)
theorem aw11_bwf : aw11b.Wf := child_wf aw11_awf (by decide)
theorem aw11_ga : follows aw11g aw11a = 0 := by
  unfold follows
  rw [aw11_key]
  simp only
  rw [if_neg (by rintro ⟨_, h⟩; exact h rfl)]
  exact aw11_a
theorem aw11_ab : follows aw11a aw11b = 0 := by
  unfold follows
  rw [aw11_keyb]
  simp only
  rw [if_neg (by rintro ⟨_, h⟩; exact h rfl)]
  exact aw11_b
theorem aw11_gb : follows aw11g aw11b = 7 := by
  unfold follows
  rw [aw11_keyb]
  simp only
  rw [if_pos ⟨by kernel_rfl, fun h => by
    have h2 := congrArg St.length h
    have e1 : (child aw11g ⟨9, zeroH, zeroH⟩).1.length = 2 := by kernel_rfl
    have e2 : aw11b.length = 3 := by kernel_rfl
    rw [e1, e2] at h2
    omega⟩]
theorem aw11_ba : follows aw11b aw11a = 6 := by
  unfold follows
  rw [aw11_key]
  have e : aw11b.slot = 9 := by kernel_rfl
  have : child aw11b ⟨3, zeroH, zeroH⟩ = (state0, 6) := by unfold child; rw [if_pos (by rw [e]; decide)]
  rw [this]
  rfl
theorem aw11_line3 : line [aw11g, aw11a, aw11b] = (3, 0) := by
  simp only [line, lineFrom, aw11_ga, aw11_ab, if_true]
theorem aw11_line2 : line [aw11g, aw11b] = (1, 7) := by
  simp only [line, lineFrom, aw11_gb]
  rfl
end Go.Alm
namespace Go.Proofs.YtpoaakdljpdkfaaDoor
open Go.RowKit Go.Alm
@[go_sem ↓] theorem exLsSt (ρ : Operand → Value) (dst : Option Tmp) (n : Nat) (ps : Array (Nat × Operand)) (ty : TypeId) (pos : String) (after : Array Edge) (guard : Option (Nat × Bool)) : execOp ρ { dst, op := .buildSlice 63 n ps, type := ty, pos, after, guard } = buildSliceK 63 n (ps.map fun (i, x) => (i, ρ x)) := rfl
theorem bsSt (l : List St) (hl : l.length ≤ 1000) (hn : l ≠ []) (w : World) : (buildSliceK 63 l.length ((l.map encSt).zipIdx.map fun (v, i) => (i, Value.agg v)).toArray).run Tryd.prog w = .ok (.value (.slice (some ⟨w.heap.size, 0, none⟩) l.length l.length)) (w.alloc (.cells (encSts l) 35)) := by
  have h0 : 0 < l.length := List.length_pos_iff.2 hn
  have := run_buildSliceK (P := Tryd.prog) 63 35 363 (encSt state0) (by kernel_rfl) zerSt sizSt (by omega) (l.map encSt) (fun v hv => by obtain ⟨b, _, rfl⟩ := List.mem_map.1 hv; exact size_encSt b) (by rw [List.length_map]; omega) (by rw [List.length_map]; omega) w
  rw [List.length_map] at this
  rw [this, List.flatMap_map]
  rfl
@[go_sem] theorem bsSt3 (a b c : St) (w : World) : (buildSliceK 63 3 #[(0, .agg (encSt a)), (1, .agg (encSt b)), (2, .agg (encSt c))]).run Tryd.prog w = .ok (.value (.slice (some ⟨w.heap.size, 0, none⟩) 3 3)) (w.alloc (.cells (encSts [a, b, c]) 35)) := bsSt [a, b, c] (by simp) (by simp) w
@[go_sem] theorem bsSt2 (a b : St) (w : World) : (buildSliceK 63 2 #[(0, .agg (encSt a)), (1, .agg (encSt b))]).run Tryd.prog w = .ok (.value (.slice (some ⟨w.heap.size, 0, none⟩) 2 2)) (w.alloc (.cells (encSts [a, b]) 35)) := bsSt [a, b] (by simp) (by simp) w
@[go_sem] theorem bldBk9 (w : World) : (buildK 37 #[(0, .int .u32 9)]).run Tryd.prog w = .ok (.value (.agg (encBk ⟨9, zeroH, zeroH⟩))) w := bldBkS 9 w
set_option maxRecDepth 20000 in
set_option maxHeartbeats 4000000 in
theorem awake11_any (w : World) (hk : Keyed w) : Calls Tryd.prog 26 #[] w fun e w' => e = .returned (.bool true) ∧ Below w.heap.size w w' := by
  have r1 := aw11_ga; have r2 := aw11_ab; have r3 := aw11_gb; have r4 := aw11_ba; have r5 := aw11_line3; have r6 := aw11_line2
  have w1 := aw11_gwf; have w2 := aw11_awf; have w3 := aw11_bwf
  have k1 : ∀ _ : Unit, child aw11g ⟨3, zeroH, zeroH⟩ = (aw11a, 0) := fun _ => Prod.ext rfl aw11_a
  have k2 : ∀ _ : Unit, child aw11a ⟨9, zeroH, zeroH⟩ = (aw11b, 0) := fun _ => Prod.ext rfl aw11_b
  have k0 : ∀ _ : Unit, genesis h1 = aw11g := fun _ => rfl
  generalize aw11g = g at *
  generalize aw11a = a at *
  generalize aw11b = b at *
  replace r1 : ∀ _ : Unit, _ := fun _ => r1
  replace r2 : ∀ _ : Unit, _ := fun _ => r2
  replace r3 : ∀ _ : Unit, _ := fun _ => r3
  replace r4 : ∀ _ : Unit, _ := fun _ => r4
  replace r5 : ∀ _ : Unit, _ := fun _ => r5
  replace r6 : ∀ _ : Unit, _ := fun _ => r6
  go_enter Tryd.func26, Tryd.ntmps26
  go_wp2_with fail
  refine (SGenesis_any h1 _).mono ?_
  rw [k0 ()]
  rintro e u1 ⟨rfl, hb1⟩
  have hk1 := hk.below hb1
  go_wp2_with fail
  have own1 := ((Owns.nil w).call hb1).alloc (encSt g) 35
  refine (Child_any g ⟨3, zeroH, zeroH⟩ _ (hk.below own1.below) w1 (by decide)).mono ?_
  rw [k1 ()]
  rintro e u2 ⟨rfl, hb2⟩
  simp only
  have own2 := own1.call hb2
  simp only [List.nil_append] at own2
  clear own1 hb2 hb1 hk1
  generalize u1.heap.size = c1 at own2 ⊢
  obtain ⟨-, lt0, row0, -⟩ := own2.at1
  go_wp2_with fail
  have own3 := own2.alloc (encSt a) 35
  simp only [List.cons_append, List.nil_append] at own3
  refine (Child_any a ⟨9, zeroH, zeroH⟩ _ (hk.below own3.below) w2 (by decide)).mono ?_
  rw [k2 ()]
  rintro e u3 ⟨rfl, hb3⟩
  simp only
  have own4 := own3.call hb3
  clear own2 own3 hb3 lt0 row0
  generalize u2.heap.size = c2 at own4 ⊢
  obtain ⟨-, lt0, row0, -⟩ := own4.at1
  obtain ⟨-, lt1, row1, -⟩ := own4.at2
  go_wp2_with fail
  have own5 := own4.alloc (encSt b) 35
  have own6 := own5.alloc (encSts [g, a, b]) 35
  simp only [List.cons_append, List.nil_append] at own5 own6
  have hn0 : u3.heap.size + 1 = (u3.alloc (.cells (encSt b) 35)).heap.size := by simp
  rw [← hn0] at own6
  generalize hW6 : (u3.alloc (.cells (encSt b) 35)).alloc (.cells (encSts [g, a, b]) 35) = W6 at own6 ⊢
  clear own4 own5 lt0 row0 lt1 row1 hn0 hW6
  generalize u3.heap.size + 1 = c6 at own6 ⊢
  generalize u3.heap.size = c4 at own6 ⊢
  refine (Line_any [g, a, b] (some ⟨c6, 0, none⟩) 3 _ (hk.below own6.below) (by simp; exact ⟨w1, w2, w3⟩) (by simp) (.inr ⟨c6, 0, rfl, own6.at4.2.1, by rw [own6.at4.2.2.1]; exact whole_sts [g, a, b]⟩)).mono ?_
  rw [r5 ()]
  rintro e u7 ⟨rfl, hb7⟩
  simp only
  have own7 := (own6.call hb7).sub (M := [(c1, encSt g), (c2, encSt a), (c4, encSt b)]) (by intro p hp; simp only [List.mem_cons, List.not_mem_nil, or_false] at hp ⊢; rcases hp with h | h | h <;> simp [h])
  clear own6 hb7
  obtain ⟨-, lt0, row0, -⟩ := own7.at1
  obtain ⟨-, lt1, row1, -⟩ := own7.at2
  obtain ⟨-, lt2, row2, -⟩ := own7.at3
  go_wp2_with fail
  have own8 := own7.alloc (encSts [g, b]) 35
  simp only [List.cons_append, List.nil_append] at own8
  refine (Line_any [g, b] (some ⟨u7.heap.size, 0, none⟩) 2 _ (hk.below own8.below) (by simp; exact ⟨w1, w3⟩) (by simp) (.inr ⟨_, 0, rfl, own8.at4.2.1, by rw [own8.at4.2.2.1]; exact whole_sts [g, b]⟩)).mono ?_
  rw [r6 ()]
  rintro e u9 ⟨rfl, hb9⟩
  simp only
  have own9 := (own8.call hb9).sub (M := [(c1, encSt g), (c2, encSt a), (c4, encSt b)]) (by intro p hp; simp only [List.mem_cons, List.not_mem_nil, or_false] at hp ⊢; rcases hp with h | h | h <;> simp [h])
  clear own7 own8 hb9 lt0 row0 lt1 row1 lt2 row2
  obtain ⟨-, lt0, row0, -⟩ := own9.at1
  obtain ⟨-, lt1, row1, -⟩ := own9.at2
  obtain ⟨-, lt2, row2, -⟩ := own9.at3
  go_wp2_with fail
  refine (LFollows_any g a _ (hk.below own9.below) w1 w2.slot).mono ?_
  rw [r1 ()]
  rintro e u10 ⟨rfl, hb10⟩
  have own10 := own9.call hb10
  clear own9 hb10 lt0 row0 lt1 row1 lt2 row2
  obtain ⟨-, lt0, row0, -⟩ := own10.at1
  obtain ⟨-, lt1, row1, -⟩ := own10.at2
  obtain ⟨-, lt2, row2, -⟩ := own10.at3
  go_wp2_with fail
  refine (LFollows_any a b _ (hk.below own10.below) w2 w3.slot).mono ?_
  rw [r2 ()]
  rintro e u11 ⟨rfl, hb11⟩
  have own11 := own10.call hb11
  clear own10 hb11 lt0 row0 lt1 row1 lt2 row2
  obtain ⟨-, lt0, row0, -⟩ := own11.at1
  obtain ⟨-, lt1, row1, -⟩ := own11.at2
  obtain ⟨-, lt2, row2, -⟩ := own11.at3
  go_wp2_with fail
  refine (LFollows_any g b _ (hk.below own11.below) w1 w3.slot).mono ?_
  rw [r3 ()]
  rintro e u12 ⟨rfl, hb12⟩
  have own12 := own11.call hb12
  clear own11 hb12 lt0 row0 lt1 row1 lt2 row2
  obtain ⟨-, lt0, row0, -⟩ := own12.at1
  obtain ⟨-, lt1, row1, -⟩ := own12.at2
  obtain ⟨-, lt2, row2, -⟩ := own12.at3
  go_wp2_with fail
  refine (LFollows_any b a _ (hk.below own12.below) w3 w2.slot).mono ?_
  rw [r4 ()]
  rintro e u13 ⟨rfl, hb13⟩
  have own13 := own12.call hb13
  clear own12 hb13 lt0 row0 lt1 row1 lt2 row2
  go_wp2_with fail
  go_ret
  exact ⟨rfl, own13.below⟩
end Go.Proofs.YtpoaakdljpdkfaaDoor

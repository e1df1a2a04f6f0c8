/- THE WALKS OF grow: more, first, Child. -/
import Derived.Test.YtpoaakdljpdkfaaDoorC23
set_option linter.unusedSimpArgs false
set_option linter.unusedVariables false
namespace Go.Proofs.YtpoaakdljpdkfaaDoor
open Go.RowKit Go.Alm
theorem more32_any (a b : Nat) (w : World) (h0 : a < 4294967296) (h1 : b < 4294967296) :
    Calls Tryd.prog 61 #[.int .u32 a, .int .u32 b] w fun e w' => e = .returned (if a + b < 4294967296 then .tuple #[.int .u32 ((a : Int) + (b : Int)), .int .i64 0] else .tuple #[.int .u32 0, .int .i64 5]) ∧ Below w.heap.size w w' := by
  by_cases h : a + b < 4294967296
  · rw [if_pos h]
    go_enter Tryd.func61, Tryd.ntmps61
    go_wp2_with fail
    refine (Add32_any a b _ h0 h1).mono ?_
    rintro e w1 ⟨rfl, hb1⟩
    rw [if_pos h]
    go_wp2_with fail
    go_ret2
    exact ⟨rfl, hb1⟩
  · rw [if_neg h]
    go_enter Tryd.func61, Tryd.ntmps61
    go_wp2_with fail
    refine (Add32_any a b _ h0 h1).mono ?_
    rintro e w1 ⟨rfl, hb1⟩
    rw [if_neg h]
    go_wp2_with fail
    go_ret2
    exact ⟨rfl, hb1⟩
/-- the first error of four -/
def first4 (a b c d : Nat) : Nat := if a ≠ 0 then a else if b ≠ 0 then b else if c ≠ 0 then c else d
theorem first4_any (a b c d s cap : Nat) (w : World) (hs : w.rowD s = #[.int .i64 (a : Int), .int .i64 (b : Int), .int .i64 (c : Int), .int .i64 (d : Int)]) (hlt : s < w.heap.size) :
    Calls Tryd.prog 64 #[.slice (some ⟨s, 0, none⟩) 4 cap] w fun e w' => e = .returned (.int .i64 (first4 a b c d : Nat)) ∧ Below w.heap.size w w' := by
  generalize hV : Value.int .i64 (first4 a b c d : Nat) = V
  go_enter Tryd.func64, Tryd.ntmps64
  go_wp2_with fail
  refine wp_loop_rounds 5 ?_
  have nz : ∀ n : Nat, n ≠ 0 → ((n : Int) != 0) = true := fun n h => by simpa using h
  by_cases ha : a = 0
  rotate_left
  · have := nz a ha
    rw [rounds_succ]; go_wp2_with fail
    go_ret
    exact ⟨by rw [← hV, first4, if_pos ha]; rfl, Below.refl _ _⟩
  subst ha
  by_cases hb : b = 0
  rotate_left
  · have := nz b hb
    rw [rounds_succ]; go_wp2_with fail
    rw [rounds_succ]; go_wp2_with fail
    go_ret
    exact ⟨by rw [← hV, first4, if_neg (by simp), if_pos hb]; rfl, Below.refl _ _⟩
  subst hb
  by_cases hc : c = 0
  rotate_left
  · have := nz c hc
    rw [rounds_succ]; go_wp2_with fail
    rw [rounds_succ]; go_wp2_with fail
    rw [rounds_succ]; go_wp2_with fail
    go_ret
    exact ⟨by rw [← hV, first4, if_neg (by simp), if_neg (by simp), if_pos hc]; rfl, Below.refl _ _⟩
  subst hc
  by_cases hd : d = 0
  rotate_left
  · have := nz d hd
    rw [rounds_succ]; go_wp2_with fail
    rw [rounds_succ]; go_wp2_with fail
    rw [rounds_succ]; go_wp2_with fail
    rw [rounds_succ]; go_wp2_with fail
    go_ret
    exact ⟨by rw [← hV, first4, if_neg (by simp), if_neg (by simp), if_neg (by simp)]; rfl, Below.refl _ _⟩
  subst hd
  rw [rounds_succ]; go_wp2_with fail
  rw [rounds_succ]; go_wp2_with fail
  rw [rounds_succ]; go_wp2_with fail
  rw [rounds_succ]; go_wp2_with fail
  rw [rounds_succ]; go_wp2_with fail
  go_ret
  exact ⟨by rw [← hV]; rfl, Below.refl _ _⟩
end Go.Proofs.YtpoaakdljpdkfaaDoor

/- THE WALK OF grow.Child. -/
set_option linter.unusedSimpArgs false
set_option linter.unusedVariables false
namespace Go.Proofs.YtpoaakdljpdkfaaDoor
open Go.RowKit Go.Alm
theorem first4_eq (l c pe fe : Nat) : (if 4294967296 ≤ l then 5 else if 4294967296 ≤ c then 5 else if pe ≠ 0 then pe else fe) = first4 (if l < 4294967296 then 0 else 5) (if c < 4294967296 then 0 else 5) pe fe := by
  unfold first4
  by_cases q1 : l < 4294967296
  · have q1' : ¬ 4294967296 ≤ l := by omega
    by_cases q2 : c < 4294967296
    · have q2' : ¬ 4294967296 ≤ c := by omega
      simp [q1, q1', q2, q2']
    · have q2' : 4294967296 ≤ c := by omega
      simp [q1, q1', q2, q2']
  · have q1' : 4294967296 ≤ l := by omega
    simp [q1, q1']
@[go_sem] theorem zcH (y : H32) : spliceL #[Value.int .u8 0, Value.int .u8 0, Value.int .u8 0, Value.int .u8 0, Value.int .u8 0, Value.int .u8 0, Value.int .u8 0, Value.int .u8 0, Value.int .u8 0, Value.int .u8 0, Value.int .u8 0, Value.int .u8 0, Value.int .u8 0, Value.int .u8 0, Value.int .u8 0, Value.int .u8 0, Value.int .u8 0, Value.int .u8 0, Value.int .u8 0, Value.int .u8 0, Value.int .u8 0, Value.int .u8 0, Value.int .u8 0, Value.int .u8 0, Value.int .u8 0, Value.int .u8 0, Value.int .u8 0, Value.int .u8 0, Value.int .u8 0, Value.int .u8 0, Value.int .u8 0, Value.int .u8 0] 0 (encH y).toList = encH y := by rw [spliceL_all _ _ (by rw [Array.length_toList, size_encH]; rfl)]
@[go_sem] theorem zcWn (y : Wn) : spliceL #[Value.int .u32 0, Value.int .u32 0, Value.int .u32 0, Value.int .u32 0, Value.int .u32 0, Value.int .u32 0] 0 (encWn y).toList = encWn y := by rw [spliceL_all _ _ (by rw [Array.length_toList, size_encWn]; rfl)]
set_option maxRecDepth 20000 in
set_option maxHeartbeats 4000000 in
theorem Child_late (x : St) (b : Bk) (pv : H32) (pw : Wn) (pe : Nat) (fp : Pr) (fe tn : Nat) (w : World) (hk : Keyed w) (hx : x.Wf) (hb : b.slot < 4294967296) (h1 : ¬ b.slot ≤ x.slot)
    (hH : ∀ w, Keyed w → Calls Tryd.prog 16 #[.agg (encSt x)] w fun e w' => e = .returned (.agg (encH pv)) ∧ Below w.heap.size w w')
    (hP : ∀ w, Calls Tryd.prog 62 #[.agg (encWn x.win), .int .u32 b.slot] w fun e w' => e = .returned (.tuple #[.agg (encWn pw), .int .i64 (pe : Nat)]) ∧ Below w.heap.size w w')
    (hF : ∀ w, Keyed w → Calls Tryd.prog 63 #[.agg (encPr x.epochs), .agg (encEb ⟨x.slot, b.slot, pv, x.ledger, b.draw⟩)] w fun e w' => e = .returned (.tuple #[.agg (encPr fp), .int .i64 (fe : Nat)]) ∧ Below w.heap.size w w')
    (ht : tn = if epochOf x.slot < epochOf b.slot then 1 else 0) (V : Value)
    (hV : ∀ _ : Unit, V = if first4 (if x.length + 1 < 4294967296 then 0 else 5) (if x.count + tn < 4294967296 then 0 else 5) pe fe ≠ 0 then .tuple #[.agg (encSt state0), .int .i64 (first4 (if x.length + 1 < 4294967296 then 0 else 5) (if x.count + tn < 4294967296 then 0 else 5) pe fe : Nat)]
      else .tuple #[.agg (encSt ⟨pv, b.ledger, b.draw, b.slot, x.length + 1, x.count + tn, pw, fp⟩), .int .i64 0]) :
    Calls Tryd.prog 15 #[.agg (encSt x), .agg (encBk b)] w fun e w' => e = .returned V ∧ Below w.heap.size w w' := by
  have hs := hx.slot
  have hl := hx.length
  have hc := hx.count
  go_enter Tryd.func15, Tryd.ntmps15
  go_wp2_with fail
  generalize hW : World.alloc (World.alloc (World.alloc w _) _) _ = W
  have own := own_three w (encSt x) (encBk b) (encSt state0) 35 37 35
  replace own : Owns w W _ := hW ▸ own
  clear hW
  refine (Turns_any x.slot b.slot W hs hb).mono ?_
  rintro e w2 ⟨rfl, hb2⟩
  have own2 := own.call hb2
  clear own
  obtain ⟨-, lt0, row0, fr0⟩ := own2.at1
  obtain ⟨-, lt1, row1, fr1⟩ := own2.at2
  by_cases h2 : epochOf x.slot < epochOf b.slot
  · obtain rfl : tn = 1 := by rw [ht, if_pos h2]
    clear ht
    go_wp2_with fail
    refine (hH _ (hk.below own2.below)).mono ?_
    rintro e w3 ⟨rfl, hb3⟩
    have own3 := own2.call hb3
    clear own2 lt0 row0 fr0 lt1 row1 fr1
    obtain ⟨-, lt0, row0, fr0⟩ := own3.at1
    go_wp2_with fail
    have own4 := own3.alloc (encH pv) 23
    generalize World.alloc w3 _ = w4 at own4 ⊢
    generalize w3.heap.size = c1 at own4 ⊢
    clear own3 lt0 row0 fr0
    simp only [List.cons_append, List.nil_append] at own4
    obtain ⟨-, lt0, row0, fr0⟩ := own4.at1
    refine (more32_any x.length 1 _ hl (by omega)).mono ?_
    rintro e w5 ⟨rfl, hb5⟩
    have own5 := own4.call hb5
    clear own4 lt0 row0 fr0
    obtain ⟨-, lt0, row0, fr0⟩ := own5.at1
    obtain ⟨nl, hnl, hnl2⟩ : ∃ nl : Int, (if x.length + 1 < 4294967296 then Value.tuple #[.int .u32 ((x.length : Int) + ((1 : Nat) : Int)), .int .i64 0] else .tuple #[.int .u32 0, .int .i64 5]) = .tuple #[.int .u32 nl, .int .i64 (((if x.length + 1 < 4294967296 then 0 else 5 : Nat)) : Int)] ∧ (x.length + 1 < 4294967296 → nl = ((x.length + 1 : Nat) : Int)) := by
      by_cases h : x.length + 1 < 4294967296
      · simp only [if_pos h]; exact ⟨_, rfl, fun _ => rfl⟩
      · simp only [if_neg h]; exact ⟨_, rfl, fun h' => absurd h' h⟩
    rw [hnl]
    clear hnl
    generalize he1 : (if x.length + 1 < 4294967296 then 0 else 5) = e1 at hV ⊢
    replace hnl2 : ∀ _ : Unit, e1 = 0 → nl = ((x.length + 1 : Nat) : Int) := fun _ he => hnl2 (by
      by_cases h : x.length + 1 < 4294967296
      · exact h
      · rw [if_neg h] at he1; omega)
    clear he1
    go_wp2_with fail
    refine (more32_any x.count 1 _ hc (by omega)).mono ?_
    rintro e w6 ⟨rfl, hb6⟩
    have own6 := own5.call hb6
    clear own5 lt0 row0 fr0
    obtain ⟨-, lt0, row0, fr0⟩ := own6.at1
    obtain ⟨-, lt1, row1, fr1⟩ := own6.at2
    obtain ⟨nc, hnc, hnc2⟩ : ∃ nc : Int, (if x.count + 1 < 4294967296 then Value.tuple #[.int .u32 ((x.count : Int) + ((1 : Nat) : Int)), .int .i64 0] else .tuple #[.int .u32 0, .int .i64 5]) = .tuple #[.int .u32 nc, .int .i64 (((if x.count + 1 < 4294967296 then 0 else 5 : Nat)) : Int)] ∧ (x.count + 1 < 4294967296 → nc = ((x.count + 1 : Nat) : Int)) := by
      by_cases h : x.count + 1 < 4294967296
      · simp only [if_pos h]; exact ⟨_, rfl, fun _ => rfl⟩
      · simp only [if_neg h]; exact ⟨_, rfl, fun h' => absurd h' h⟩
    rw [hnc]
    clear hnc
    generalize he2 : (if x.count + 1 < 4294967296 then 0 else 5) = e2 at hV ⊢
    replace hnc2 : ∀ _ : Unit, e2 = 0 → nc = ((x.count + 1 : Nat) : Int) := fun _ he => hnc2 (by
      by_cases h : x.count + 1 < 4294967296
      · exact h
      · rw [if_neg h] at he2; omega)
    clear he2
    go_wp2_with fail
    refine (hP _).mono ?_
    rintro e w7 ⟨rfl, hb7⟩
    have own7 := own6.call hb7
    clear own6 lt0 row0 fr0 lt1 row1 fr1
    obtain ⟨-, lt0, row0, fr0⟩ := own7.at1
    obtain ⟨-, lt1, row1, fr1⟩ := own7.at2
    obtain ⟨-, lt3, row3, fr3⟩ := own7.at4
    go_wp2_with fail
    have own8 := own7.alloc (encWn pw) 29
    refine (hF _ (hk.below own8.below)).mono ?_
    generalize World.alloc w7 _ = w8 at own8 ⊢
    generalize w7.heap.size = c2 at own8 ⊢
    rintro e w9 ⟨rfl, hb9⟩
    have own9 := own8.call hb9
    clear own7 own8 lt0 row0 fr0 lt1 row1 fr1 lt3 row3 fr3
    simp only [List.cons_append, List.nil_append] at own9
    go_wp2_with fail
    have own10 := own9.alloc (encPr fp) 33
    have own11 := own10.alloc #[.int .i64 (e1 : Int), .int .i64 (e2 : Int), .int .i64 (pe : Int), .int .i64 (fe : Int)] 40
    simp only [List.cons_append, List.nil_append, World.size_alloc] at own11
    generalize World.alloc (World.alloc w9 _) _ = w11 at own11 ⊢
    generalize w9.heap.size = c3 at own11 ⊢
    clear own9 own10 hb9 hb7 hb6 hb5 hb3 hb2 hH hP hF
    obtain ⟨-, lt6, row6, fr6⟩ := own11.blocks _ (List.mem_cons_of_mem _ (List.mem_cons_of_mem _ (List.mem_cons_of_mem _ (List.mem_cons_of_mem _ (List.mem_cons_of_mem _ (List.mem_cons_of_mem _ (List.mem_cons_self)))))))
    refine (first4_any e1 e2 pe fe _ _ w11 row6 lt6).mono ?_
    rintro e w12 ⟨rfl, hb12⟩
    have own12 := own11.call hb12
    clear own11 lt6 row6 fr6
    obtain ⟨-, lt1, row1, fr1⟩ := own12.at2
    obtain ⟨-, lt2, row2, fr2⟩ := own12.at3
    obtain ⟨-, lt3, row3, fr3⟩ := own12.at4
    obtain ⟨-, lt4, row4, fr4⟩ := own12.blocks (c2, encWn pw) (by simp)
    obtain ⟨-, lt5, row5, fr5⟩ := own12.blocks (c3, encPr fp) (by simp)
    simp only at lt4 row4 fr4 lt5 row5 fr5
    by_cases he : first4 e1 e2 pe fe = 0
    rotate_left
    · have hV' := hV ()
      rw [if_pos he] at hV'
      clear hV
      generalize first4 e1 e2 pe fe = e0 at he hV' ⊢
      replace hV' : ∀ _ : Unit, _ := fun _ => hV'
      have he' : ((e0 : Int) != 0) = true := by simpa using he
      go_wp2_with fail
      exact ret_cell_tmp rfl rfl rfl (rWSt _ _ _ (by rw [rowD_setCells_same, row2, all_st])) ⟨by rw [hV' ()]; rfl, below_setCells _ (by omega) _ _ _ _ own12.below⟩
    · have hV' := hV ()
      rw [if_neg (by simpa using he)] at hV'
      clear hV
      have h10 : e1 = 0 ∧ e2 = 0 := by
        unfold first4 at he
        by_cases q1 : e1 = 0
        · by_cases q2 : e2 = 0
          · exact ⟨q1, q2⟩
          · rw [if_neg (by simpa using q1), if_pos q2] at he; exact absurd he q2
        · rw [if_pos q1] at he; exact absurd he q1
      obtain ⟨n1, hn1, hn1'⟩ : ∃ n1 : Nat, (∀ _ : Unit, n1 = x.length + 1) ∧ nl = (n1 : Int) := ⟨_, fun _ => rfl, hnl2 () h10.1⟩
      obtain ⟨n2, hn2, hn2'⟩ : ∃ n2 : Nat, (∀ _ : Unit, n2 = x.count + 1) ∧ nc = (n2 : Int) := ⟨_, fun _ => rfl, hnc2 () h10.2⟩
      clear hnl2 hnc2 h10
      subst hn1' hn2'
      rw [← hn1 (), ← hn2 ()] at hV'
      replace hV' : ∀ _ : Unit, _ := fun _ => hV'
      rw [he]
      clear he
      go_wp2_with fail
      exact ret_cell_tmp rfl rfl rfl (rWSt _ _ _ (by rw [rowD_setCells_same, row2, all_st])) ⟨by rw [hV' ()]; rfl, below_setCells _ (by omega) _ _ _ _ own12.below⟩
  · obtain rfl : tn = 0 := by rw [ht, if_neg h2]
    clear ht
    go_wp2_with fail
    refine (hH _ (hk.below own2.below)).mono ?_
    rintro e w3 ⟨rfl, hb3⟩
    have own3 := own2.call hb3
    clear own2 lt0 row0 fr0 lt1 row1 fr1
    obtain ⟨-, lt0, row0, fr0⟩ := own3.at1
    go_wp2_with fail
    have own4 := own3.alloc (encH pv) 23
    generalize World.alloc w3 _ = w4 at own4 ⊢
    generalize w3.heap.size = c1 at own4 ⊢
    clear own3 lt0 row0 fr0
    simp only [List.cons_append, List.nil_append] at own4
    obtain ⟨-, lt0, row0, fr0⟩ := own4.at1
    refine (more32_any x.length 1 _ hl (by omega)).mono ?_
    rintro e w5 ⟨rfl, hb5⟩
    have own5 := own4.call hb5
    clear own4 lt0 row0 fr0
    obtain ⟨-, lt0, row0, fr0⟩ := own5.at1
    obtain ⟨nl, hnl, hnl2⟩ : ∃ nl : Int, (if x.length + 1 < 4294967296 then Value.tuple #[.int .u32 ((x.length : Int) + ((1 : Nat) : Int)), .int .i64 0] else .tuple #[.int .u32 0, .int .i64 5]) = .tuple #[.int .u32 nl, .int .i64 (((if x.length + 1 < 4294967296 then 0 else 5 : Nat)) : Int)] ∧ (x.length + 1 < 4294967296 → nl = ((x.length + 1 : Nat) : Int)) := by
      by_cases h : x.length + 1 < 4294967296
      · simp only [if_pos h]; exact ⟨_, rfl, fun _ => rfl⟩
      · simp only [if_neg h]; exact ⟨_, rfl, fun h' => absurd h' h⟩
    rw [hnl]
    clear hnl
    generalize he1 : (if x.length + 1 < 4294967296 then 0 else 5) = e1 at hV ⊢
    replace hnl2 : ∀ _ : Unit, e1 = 0 → nl = ((x.length + 1 : Nat) : Int) := fun _ he => hnl2 (by
      by_cases h : x.length + 1 < 4294967296
      · exact h
      · rw [if_neg h] at he1; omega)
    clear he1
    go_wp2_with fail
    refine (more32_any x.count 0 _ hc (by omega)).mono ?_
    rintro e w6 ⟨rfl, hb6⟩
    have own6 := own5.call hb6
    clear own5 lt0 row0 fr0
    obtain ⟨-, lt0, row0, fr0⟩ := own6.at1
    obtain ⟨-, lt1, row1, fr1⟩ := own6.at2
    obtain ⟨nc, hnc, hnc2⟩ : ∃ nc : Int, (if x.count + 0 < 4294967296 then Value.tuple #[.int .u32 ((x.count : Int) + ((0 : Nat) : Int)), .int .i64 0] else .tuple #[.int .u32 0, .int .i64 5]) = .tuple #[.int .u32 nc, .int .i64 (((if x.count + 0 < 4294967296 then 0 else 5 : Nat)) : Int)] ∧ (x.count + 0 < 4294967296 → nc = ((x.count + 0 : Nat) : Int)) := by
      by_cases h : x.count + 0 < 4294967296
      · simp only [if_pos h]; exact ⟨_, rfl, fun _ => rfl⟩
      · simp only [if_neg h]; exact ⟨_, rfl, fun h' => absurd h' h⟩
    rw [hnc]
    clear hnc
    generalize he2 : (if x.count + 0 < 4294967296 then 0 else 5) = e2 at hV ⊢
    replace hnc2 : ∀ _ : Unit, e2 = 0 → nc = ((x.count + 0 : Nat) : Int) := fun _ he => hnc2 (by
      by_cases h : x.count + 0 < 4294967296
      · exact h
      · rw [if_neg h] at he2; omega)
    clear he2
    go_wp2_with fail
    refine (hP _).mono ?_
    rintro e w7 ⟨rfl, hb7⟩
    have own7 := own6.call hb7
    clear own6 lt0 row0 fr0 lt1 row1 fr1
    obtain ⟨-, lt0, row0, fr0⟩ := own7.at1
    obtain ⟨-, lt1, row1, fr1⟩ := own7.at2
    obtain ⟨-, lt3, row3, fr3⟩ := own7.at4
    go_wp2_with fail
    have own8 := own7.alloc (encWn pw) 29
    refine (hF _ (hk.below own8.below)).mono ?_
    generalize World.alloc w7 _ = w8 at own8 ⊢
    generalize w7.heap.size = c2 at own8 ⊢
    rintro e w9 ⟨rfl, hb9⟩
    have own9 := own8.call hb9
    clear own7 own8 lt0 row0 fr0 lt1 row1 fr1 lt3 row3 fr3
    simp only [List.cons_append, List.nil_append] at own9
    go_wp2_with fail
    have own10 := own9.alloc (encPr fp) 33
    have own11 := own10.alloc #[.int .i64 (e1 : Int), .int .i64 (e2 : Int), .int .i64 (pe : Int), .int .i64 (fe : Int)] 40
    simp only [List.cons_append, List.nil_append, World.size_alloc] at own11
    generalize World.alloc (World.alloc w9 _) _ = w11 at own11 ⊢
    generalize w9.heap.size = c3 at own11 ⊢
    clear own9 own10 hb9 hb7 hb6 hb5 hb3 hb2 hH hP hF
    obtain ⟨-, lt6, row6, fr6⟩ := own11.blocks _ (List.mem_cons_of_mem _ (List.mem_cons_of_mem _ (List.mem_cons_of_mem _ (List.mem_cons_of_mem _ (List.mem_cons_of_mem _ (List.mem_cons_of_mem _ (List.mem_cons_self)))))))
    refine (first4_any e1 e2 pe fe _ _ w11 row6 lt6).mono ?_
    rintro e w12 ⟨rfl, hb12⟩
    have own12 := own11.call hb12
    clear own11 lt6 row6 fr6
    obtain ⟨-, lt1, row1, fr1⟩ := own12.at2
    obtain ⟨-, lt2, row2, fr2⟩ := own12.at3
    obtain ⟨-, lt3, row3, fr3⟩ := own12.at4
    obtain ⟨-, lt4, row4, fr4⟩ := own12.blocks (c2, encWn pw) (by simp)
    obtain ⟨-, lt5, row5, fr5⟩ := own12.blocks (c3, encPr fp) (by simp)
    simp only at lt4 row4 fr4 lt5 row5 fr5
    by_cases he : first4 e1 e2 pe fe = 0
    rotate_left
    · have hV' := hV ()
      rw [if_pos he] at hV'
      clear hV
      generalize first4 e1 e2 pe fe = e0 at he hV' ⊢
      replace hV' : ∀ _ : Unit, _ := fun _ => hV'
      have he' : ((e0 : Int) != 0) = true := by simpa using he
      go_wp2_with fail
      exact ret_cell_tmp rfl rfl rfl (rWSt _ _ _ (by rw [rowD_setCells_same, row2, all_st])) ⟨by rw [hV' ()]; rfl, below_setCells _ (by omega) _ _ _ _ own12.below⟩
    · have hV' := hV ()
      rw [if_neg (by simpa using he)] at hV'
      clear hV
      have h10 : e1 = 0 ∧ e2 = 0 := by
        unfold first4 at he
        by_cases q1 : e1 = 0
        · by_cases q2 : e2 = 0
          · exact ⟨q1, q2⟩
          · rw [if_neg (by simpa using q1), if_pos q2] at he; exact absurd he q2
        · rw [if_pos q1] at he; exact absurd he q1
      obtain ⟨n1, hn1, hn1'⟩ : ∃ n1 : Nat, (∀ _ : Unit, n1 = x.length + 1) ∧ nl = (n1 : Int) := ⟨_, fun _ => rfl, hnl2 () h10.1⟩
      obtain ⟨n2, hn2, hn2'⟩ : ∃ n2 : Nat, (∀ _ : Unit, n2 = x.count + 0) ∧ nc = (n2 : Int) := ⟨_, fun _ => rfl, hnc2 () h10.2⟩
      clear hnl2 hnc2 h10
      subst hn1' hn2'
      rw [← hn1 (), ← hn2 ()] at hV'
      replace hV' : ∀ _ : Unit, _ := fun _ => hV'
      rw [he]
      clear he
      go_wp2_with fail
      exact ret_cell_tmp rfl rfl rfl (rWSt _ _ _ (by rw [rowD_setCells_same, row2, all_st])) ⟨by rw [hV' ()]; rfl, below_setCells _ (by omega) _ _ _ _ own12.below⟩
set_option maxRecDepth 20000 in
theorem Child_any (x : St) (b : Bk) (w : World) (hk : Keyed w) (hx : x.Wf) (hb : b.slot < 4294967296) :
    Calls Tryd.prog 15 #[.agg (encSt x), .agg (encBk b)] w fun e w' => e = .returned (.tuple #[.agg (encSt (child x b).1), .int .i64 ((child x b).2 : Nat)]) ∧ Below w.heap.size w w' := by
  by_cases h1 : b.slot ≤ x.slot
  · have hc : child x b = (state0, 6) := by unfold child; rw [if_pos h1]
    rw [hc]
    go_enter Tryd.func15, Tryd.ntmps15
    go_wp2_with fail
    generalize hW : World.alloc (World.alloc (World.alloc w _) _) _ = W
    have own := own_three w (encSt x) (encBk b) (encSt state0) 35 37 35
    replace own : Owns w W _ := hW ▸ own
    exact ret_cell_tmp rfl rfl rfl (rWSt _ _ _ own.at3.2.2.1) ⟨rfl, own.below⟩
  · refine Child_late x b (hashOf x) (putW x.win b.slot).1 (putW x.win b.slot).2 (Go.Alm.follow x.epochs x.slot b.slot (hashOf x) x.ledger b.draw).1 (Go.Alm.follow x.epochs x.slot b.slot (hashOf x) x.ledger b.draw).2 _ w hk hx hb h1
      (fun w hk => Hash_any x w hk hx) (fun w => WPut_any x.win b.slot w hb) (fun w hk => Follow_any x.epochs ⟨x.slot, b.slot, hashOf x, x.ledger, b.draw⟩ w hk hx.slot hb hx.next) rfl _ (fun _ => ?_)
    unfold child
    rw [if_neg h1]
    simp only
    generalize (if epochOf x.slot < epochOf b.slot then 1 else 0) = tn
    have he : (if 4294967296 ≤ x.length + 1 then 5 else if 4294967296 ≤ x.count + tn then 5 else if (putW x.win b.slot).2 ≠ 0 then (putW x.win b.slot).2 else (Go.Alm.follow x.epochs x.slot b.slot (hashOf x) x.ledger b.draw).2)
        = first4 (if x.length + 1 < 4294967296 then 0 else 5) (if x.count + tn < 4294967296 then 0 else 5) (putW x.win b.slot).2 (Go.Alm.follow x.epochs x.slot b.slot (hashOf x) x.ledger b.draw).2 :=
       first4_eq _ _ _ _
    rw [he]
    generalize first4 _ _ _ _ = e0
    by_cases h : e0 = 0
    · subst h; rfl
    · rw [if_pos h, if_pos h]
end Go.Proofs.YtpoaakdljpdkfaaDoor

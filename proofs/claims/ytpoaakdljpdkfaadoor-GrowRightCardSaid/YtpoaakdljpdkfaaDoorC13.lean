/- THE WALKS OF tag: Image, Of. -/
import Derived.Test.YtpoaakdljpdkfaaDoorC12
set_option linter.unusedSimpArgs false
set_option linter.unusedVariables false
namespace Go.Proofs.YtpoaakdljpdkfaaDoor
open Go.RowKit Go.Alm
/-- parts of an image: where they lie -/
structure PartsAt (w : World) (q o : Nat) (ps : List (List Nat)) (vs : List (Nat × Nat × Nat)) : Prop where
  lt : q < w.heap.size
  cell : ∀ i (h : i < ps.length), ∃ g off c, (w.rowD q)[o + i]? = some (.slice (some ⟨g, off, none⟩) (ps[i]).length c) ∧ g < w.heap.size ∧ (w.rowD g).extract off (off + (ps[i]).length) = encB ps[i]
theorem PartsAt.below {w w' : World} {q o : Nat} {ps : List (List Nat)} {vs : List (Nat × Nat × Nat)} (h : PartsAt w q o ps vs) (hb : Below w.heap.size w w') : PartsAt w' q o ps vs :=
  ⟨Nat.lt_of_lt_of_le h.lt hb.size, fun i hi => by
    obtain ⟨g, off, c, h1, h2, h3⟩ := h.cell i hi
    exact ⟨g, off, c, by rw [rowD_congr (hb.block q h.lt)]; exact h1, Nat.lt_of_lt_of_le h2 hb.size, by rw [rowD_congr (hb.block g h2)]; exact h3⟩⟩
theorem bs_one (w W : World) (n : Nat) (hW : w.heap.size ≤ W.heap.size) : Bs w.heap.size (W.alloc (.cells #[.int .u8 (n : Int)] 5)) (.slice (some ⟨W.heap.size, 0, none⟩) 1 1) [n] :=
  ⟨rfl, .inr ⟨W.heap.size, 1, #[.int .u8 (n : Int)], rfl, hW, heap_alloc_new _ _, by simp, by simp only [maxLen]; omega, rfl, rfl⟩⟩
theorem Bs.block {base : Nat} {w : World} {v : Value} {bs : List Nat} (h : Bs base w v bs) : ∀ k, v.ownBlock = some k → base ≤ k := by
  intro k hk
  rcases h.2 with ⟨h1, _⟩ | ⟨g, cap, cur, h1, h2, _⟩
  · rw [h1] at hk; cases hk
  · rw [h1] at hk; cases hk; exact h2
theorem row_one (W : World) (n : Nat) (t : TypeId) : ((W.alloc (.cells #[.int .u8 (n : Int)] t)).rowD W.heap.size).extract 0 (0 + [n].length) = encB [n] := by
  rw [rowD_al _ _ _ rfl]; rfl
theorem row_oneE (W : World) (n : Nat) (v : Int) (h : v = (n : Int)) (t : TypeId) : ((W.alloc (.cells #[.int .u8 v] t)).rowD W.heap.size).extract 0 (0 + [n].length) = encB [n] := by
  subst h; exact row_one W n t
theorem be_four (n : Nat) : be n 4 = [n / 16777216 % 256, n / 65536 % 256, n / 256 % 256, n % 256] := by simp [be, List.range, List.range.loop]
theorem flat_succ (pre : List Nat) (ps : List (List Nat)) (t : Nat) (h : t < ps.length) : pre ++ (ps.take (t + 1)).flatMap (fun p => be p.length 4 ++ p) = pre ++ (ps.take t).flatMap (fun p => be p.length 4 ++ p) ++ (be (ps[t]).length 4 ++ ps[t]) := by
  rw [List.take_succ_eq_append_getElem h]
  simp only [List.flatMap_append, List.flatMap_cons, List.flatMap_nil, List.append_nil, List.append_assoc]
theorem flat_le (pre : List Nat) (ps : List (List Nat)) (t : Nat) (h : t < ps.length) : (pre ++ (ps.take t).flatMap fun p => be p.length 4 ++ p).length + 4 + (ps[t]).length ≤ (pre ++ ps.flatMap fun p => be p.length 4 ++ p).length := by
  have h1 := congrArg List.length (flat_succ pre ps t h)
  have h2 : ps.flatMap (fun p => be p.length 4 ++ p) = (ps.take (t + 1)).flatMap (fun p => be p.length 4 ++ p) ++ (ps.drop (t + 1)).flatMap (fun p => be p.length 4 ++ p) := by
    rw [← List.flatMap_append, List.take_append_drop]
  rw [h2]
  simp only [List.length_append] at h1 ⊢
  have : (be (ps[t]).length 4).length = 4 := by simp [be]
  omega
set_option maxRecDepth 20000 in
set_option maxHeartbeats 1000000 in
theorem Image_any (name : List Nat) (st : ByteArray) (ps : List (List Nat)) (vs : List (Nat × Nat × Nat)) (q o c : Nat) (w : World) (hst : Lib.strCells st = name.map fun n : Nat => Value.int .u8 (n : Int)) (hsz : st.size = name.length) (hn : name.length ≤ 255) (hp0 : 0 < ps.length) (hp : ps.length ≤ 255)
    (hps : PartsAt w q o ps vs) (hlen : ∀ p ∈ ps, p.length < 4294967296) (hcap : ps.length ≤ c) (hlim : (image name ps).length ≤ 140737488355328) :
    Calls Tryd.prog 99 #[.string st, .slice (some ⟨q, o, none⟩) ps.length c] w fun e w' => ∃ v, e = .returned (.tuple #[v, .int .i64 0]) ∧ Bs w.heap.size w' v (image name ps) ∧ Below w.heap.size w w' := by
  go_enter Tryd.func99, Tryd.ntmps99
  go_wp2_with (first
    | (at_builtin; refine wpList_appS rfl _ _ rfl w.heap.size (.slice (some ⟨w.heap.size, 0, none⟩) 1 1) [name.length] name rfl (bs_one w w name.length (Nat.le_refl _)) st rfl hst hsz (by simp; omega) (by simp) ?_; intro v1 w1 hbs1 hgr1
       have bel1 : Below w.heap.size w w1 := ((Below.refl _ _).alloc (Nat.le_refl _) _).grown hgr1 (by simp) (bs_one w w name.length (Nat.le_refl _)).block
       clear hgr1)
    | (at_builtin; refine wpList_appB rfl _ _ rfl w.heap.size v1 ([name.length] ++ name) [ps.length] rfl (hbs1.below ((Below.refl _ _).alloc (Nat.le_refl _) _)) w1.heap.size 0 1 1 rfl rfl (row_one _ _ _) (by simp; omega) (Nat.le_trans bel1.size (by simp)) ?_; intro v2 w2 hbs2 hgr2
       have bel2 : Below w.heap.size w w2 := (bel1.alloc bel1.size _).grown hgr2 (Nat.le_trans bel1.size (by simp)) hbs1.block
       clear hgr2 hbs1 bel1))
  generalize hpre : [name.length] ++ name ++ [ps.length] = pre at hbs2
  have hprl : pre.length ≤ 257 := by rw [← hpre]; simp; omega
  go_loopw [6, 32] (fun v i wr => ∃ t : Nat, t ≤ ps.length ∧ i = .int .i64 t ∧ Bs w.heap.size wr v (pre ++ (ps.take t).flatMap fun p => be p.length 4 ++ p) ∧ Below w.heap.size w wr)
    (fun _ i _ => ps.length - (intOf i).toNat)
  case atStart => exact ⟨0, Nat.zero_le _, rfl, by simpa using hbs2, bel2⟩
  case round =>
    obtain ⟨t, ht, rfl, hbs, bel⟩ := hrel
    by_cases hend : t = ps.length
    · subst hend
      go_wp2_with fail
      go_ret2
      refine ⟨u6, rfl, ?_, bel⟩
      rw [List.take_length] at hbs
      unfold image
      rw [hpre]
      exact hbs
    · have ht' : t < ps.length := by omega
      have hql : q < wr.heap.size := Nat.lt_of_lt_of_le hps.lt bel.size
      obtain ⟨g, off, cg, hcell, hgl, hgr0⟩ := hps.cell t ht'
      rw [← rowD_congr (bel.block q hps.lt)] at hcell
      have hPl := hlen (ps[t]) (List.getElem_mem ht')
      have hbnd : (pre ++ (ps.take t).flatMap fun p => be p.length 4 ++ p).length + 4 + (ps[t]).length ≤ 140737488355328 := by
        have := flat_le pre ps t ht'
        have e : (image name ps).length = (pre ++ ps.flatMap fun p => be p.length 4 ++ p).length := by unfold image; rw [hpre]
        omega
      have hnext := flat_succ pre ps t ht'
      generalize hL : pre ++ (ps.take t).flatMap (fun p => be p.length 4 ++ p) = L at hbs hbnd hnext
      generalize hPP : ps[t] = pt at hcell hgr0 hPl hbnd hnext
      rw [be_four] at hnext
      generalize hP : pt.length = P at hcell hgr0 hPl hbnd hnext
      go_wp2_with fail
      refine wp_loop_rounds 5 ?_
      rw [rounds_succ]; go_wp2_with (first
        | (at_builtin; refine wpList_appB rfl _ _ rfl w.heap.size u6 (L) [P / 16777216 % 256] rfl (hbs.below ((Below.refl _ _).alloc (Nat.le_refl _) _)) wr.heap.size 0 1 1 rfl rfl (row_oneE _ (P / 16777216 % 256) _ (by omega) _) (by simp; omega) (Nat.le_trans bel.size (by simp)) ?_; intro u1 y1 hcs1 hgr
           have ble1 : Below w.heap.size w y1 := (bel.alloc bel.size _).grown hgr (Nat.le_trans bel.size (by simp)) hbs.block
           clear hgr))
      rw [rounds_succ]; go_wp2_with (first
        | (at_builtin; refine wpList_appB rfl _ _ rfl w.heap.size u1 (L ++ [P / 16777216 % 256]) [P / 65536 % 256] rfl (hcs1.below ((Below.refl _ _).alloc (Nat.le_refl _) _)) y1.heap.size 0 1 1 rfl rfl (row_oneE _ (P / 65536 % 256) _ (by omega) _) (by simp; omega) (Nat.le_trans ble1.size (by simp)) ?_; intro u2 y2 hcs2 hgr
           have ble2 : Below w.heap.size w y2 := (ble1.alloc ble1.size _).grown hgr (Nat.le_trans ble1.size (by simp)) hcs1.block
           clear hgr))
      rw [rounds_succ]; go_wp2_with (first
        | (at_builtin; refine wpList_appB rfl _ _ rfl w.heap.size u2 (L ++ [P / 16777216 % 256] ++ [P / 65536 % 256]) [P / 256 % 256] rfl (hcs2.below ((Below.refl _ _).alloc (Nat.le_refl _) _)) y2.heap.size 0 1 1 rfl rfl (row_oneE _ (P / 256 % 256) _ (by omega) _) (by simp; omega) (Nat.le_trans ble2.size (by simp)) ?_; intro u3 y3 hcs3 hgr
           have ble3 : Below w.heap.size w y3 := (ble2.alloc ble2.size _).grown hgr (Nat.le_trans ble2.size (by simp)) hcs2.block
           clear hgr))
      rw [rounds_succ]; go_wp2_with (first
        | (at_builtin; refine wpList_appB rfl _ _ rfl w.heap.size u3 (L ++ [P / 16777216 % 256] ++ [P / 65536 % 256] ++ [P / 256 % 256]) [P % 256] rfl (hcs3.below ((Below.refl _ _).alloc (Nat.le_refl _) _)) y3.heap.size 0 1 1 rfl rfl (row_oneE _ (P % 256) _ (by omega) _) (by simp; omega) (Nat.le_trans ble3.size (by simp)) ?_; intro u4 y4 hcs4 hgr
           have ble4 : Below w.heap.size w y4 := (ble3.alloc ble3.size _).grown hgr (Nat.le_trans ble3.size (by simp)) hcs3.block
           clear hgr))
      rw [rounds_succ]; go_wp2_with (first
        | (at_builtin; refine wpList_appB rfl _ _ rfl w.heap.size u4 (L ++ [P / 16777216 % 256] ++ [P / 65536 % 256] ++ [P / 256 % 256] ++ [P % 256]) pt rfl hcs4 g off P cg rfl hP.symm (by rw [rowD_congr (ble4.block g hgl), hP]; exact hgr0) (by simp; omega) ble4.size ?_; intro u5 y5 hcs5 hgr
           have ble5 : Below w.heap.size w y5 := ble4.grown hgr ble4.size hcs4.block
           clear hgr))
      refine ⟨⟨t + 1, by omega, by go_num, ?_, ble5⟩, by simp [intOf]; omega⟩
      rw [hnext]
      simpa using hcs5
theorem Of_any (name : List Nat) (st : ByteArray) (ps : List (List Nat)) (vs : List (Nat × Nat × Nat)) (q o c : Nat) (w : World) (hk : Keyed w) (hst : Lib.strCells st = name.map fun n : Nat => Value.int .u8 (n : Int)) (hsz : st.size = name.length) (hn : name.length ≤ 255) (hp0 : 0 < ps.length) (hp : ps.length ≤ 255)
    (hps : PartsAt w q o ps vs) (hlen : ∀ p ∈ ps, p.length < 4294967296) (hcap : ps.length ≤ c) (hlim : (image name ps).length ≤ 140737488355328) (hb : ∀ v ∈ image name ps, v < 256) :
    Calls Tryd.prog 65 #[.string st, .slice (some ⟨q, o, none⟩) ps.length c] w fun e w' => e = .returned (.agg (encH (tagOf name ps))) ∧ Below w.heap.size w w' := by
  go_enter Tryd.func65, Tryd.ntmps65
  go_wp2_with fail
  generalize hW : World.alloc w _ = W
  have own : Owns w W [(w.heap.size, encH zeroH)] := hW ▸ own_one w _ _
  clear hW
  have hBW := own.at1.2.1
  refine (Image_any name st ps vs q o c W hst hsz hn hp0 hp (hps.below own.below) hlen hcap hlim).mono ?_
  rintro e w1 ⟨v, rfl, hbs, hb1⟩
  have own1 := own.call hb1
  go_wp2_with fail
  obtain ⟨ao, cv, rfl, hat⟩ : ∃ ao cv, v = .slice ao (image name ps).length cv ∧ At w1 ao cv (image name ps) := by
    rcases hbs.2 with ⟨h1, h2⟩ | ⟨g, cap, cur, h1, h2, h3, h4, h5, h6, h7⟩
    · simp [image] at h2
    · refine ⟨_, _, h1, .inr ⟨g, 0, rfl, (Array.getElem?_eq_some_iff.1 h3).1, h4, ?_⟩⟩
      rw [rowD_of_heap h3]
      apply Array.toList_inj.1
      rw [Nat.mul_one] at h7
      simp only [encB, Array.toList_extract, List.extract_eq_take_drop, List.drop_zero, Nat.zero_add, Nat.sub_zero]
      exact h7
  refine (ShaOf_any (image name ps) cv ao w1 (hk.below own1.below) hat hb (by omega)).mono ?_
  rintro e w2 ⟨rfl, hb2⟩
  have own2 := own1.call hb2
  obtain ⟨-, lt1, row1, fr1⟩ := own2.at1
  go_wp2_with fail
  exact ret_cell rfl rfl rfl (rWH _ _ (tagOf name ps) (by rw [rowD_setCells_same, row1, spliceL_all _ _ (by rw [Array.length_toList, size_encH, size_encH])]; rfl)) ⟨rfl, below_setCells _ (by omega) _ _ _ _ own2.below⟩
end Go.Proofs.YtpoaakdljpdkfaaDoor

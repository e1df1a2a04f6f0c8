/- THE WALKS OF sha: mix. -/
import Derived.Test.YtpoaakdljpdkfaaDoorC7
import Derived.Test.YtpoaakdljpdkfaaDoorC2
set_option linter.unusedSimpArgs false
set_option linter.unusedVariables false
namespace Go
open Go.RowKit
theorem run_copyD {P : Program} (w : World) (dT sT ty elem : TypeId) (b o dLen dCap g so sLen sCap n : Nat) (hu : P.underlying dT = some (.slice elem)) (hs : (P.info? elem).map (·.size) = some 1) (hn : n = Nat.min sLen dLen)
    (hsrc : so + n ≤ (w.rowD g).size) (hdst : o + n ≤ (w.rowD b).size) (hf : ∀ i, w.frozen? ⟨b, i, none⟩ = false) (h1 : ∀ v ∈ (w.rowD g).toList, v.oneCell' = true) :
    (Builtin.copy_ #[dT, sT] ty #[.slice (some ⟨b, o, none⟩) dLen dCap, .slice (some ⟨g, so, none⟩) sLen sCap]).run P w = .ok (goInt n) (w.setCells b o ((w.rowD g).extract so (so + n)).toList) := by
  have hl : ((w.rowD g).extract so (so + n)).toList.length = n := by simp; omega
  have := run_copy_cells (P := P) w dT sT ty elem b o dLen dCap ⟨g, so, none⟩ sLen sCap ((w.rowD g).extract so (so + n)).toList hu hs (by rw [hl, hn]) (fun j v hv => by
      rw [addr_mid, cell_rowD]
      simp only [Array.getElem?_toList, Array.getElem?_extract] at hv
      split at hv
      · exact hv
      · cases hv) (fun j hj => by rw [cell_rowD, Array.getElem?_eq_getElem (by rw [hl] at hj; omega)]; rfl) (fun j _ => hf _) (fun v hv => by
      refine h1 v ?_
      rw [Array.toList_extract] at hv
      simp only [List.extract_eq_take_drop] at hv
      exact List.mem_of_mem_drop (List.mem_of_mem_take hv))
  rw [hl] at this
  exact this
/-- one block is written, the others are as they were -/
structure Kept (g : Nat) (w w' : World) : Prop where
  os : w'.os = w.os
  tape : w'.tape = w.tape
  output : w'.output = w.output
  size : w.heap.size ≤ w'.heap.size
  block : ∀ k, k < w.heap.size → k ≠ g → w'.heap[k]? = w.heap[k]?
  frozen : ∀ i, w'.frozen? ⟨g, i, none⟩ = w.frozen? ⟨g, i, none⟩
theorem Kept.refl (g : Nat) (w : World) : Kept g w w := ⟨rfl, rfl, rfl, Nat.le_refl _, fun _ _ _ => rfl, fun _ => rfl⟩
theorem Kept.below {g : Nat} {w w' w'' : World} (h : Kept g w w') (hg : g < w.heap.size) (hb : Below w'.heap.size w' w'') : Kept g w w'' :=
  ⟨hb.os.trans h.os, hb.tape.trans h.tape, hb.output.trans h.output, Nat.le_trans h.size hb.size, fun k hk hn => (hb.block k (Nat.lt_of_lt_of_le hk h.size)).trans (h.block k hk hn),
    fun i => (hb.frozen (p := ⟨g, i, none⟩) (Nat.lt_of_lt_of_le hg h.size)).trans (h.frozen i)⟩
theorem Kept.trans {g : Nat} {w w' w'' : World} (h : Kept g w w') (h2 : Kept g w' w'') : Kept g w w'' :=
  ⟨h2.os.trans h.os, h2.tape.trans h.tape, h2.output.trans h.output, Nat.le_trans h.size h2.size, fun k hk hn => (h2.block k (Nat.lt_of_lt_of_le hk h.size) hn).trans (h.block k hk hn), fun i => (h2.frozen i).trans (h.frozen i)⟩
theorem Kept.setCell {g : Nat} {w w' : World} (h : Kept g w w') (i : Nat) (v : Value) : Kept g w (w'.setCell ⟨g, i, none⟩ v) :=
  ⟨h.os, h.tape, h.output, by simpa using h.size, fun k hk hn => by rw [heap_setCell_other _ _ _ _ hn]; exact h.block k hk hn, fun j => by rw [World.frozen?_setCell]; exact h.frozen j⟩
theorem Kept.setCells {g : Nat} {w : World} : ∀ (vs : List Value) (o : Nat) (w' : World), Kept g w w' → Kept g w (w'.setCells g o vs)
  | [], _, _, h => h
  | v :: vs, o, w', h => by rw [World.setCells]; exact Kept.setCells vs _ _ (h.setCell o v)
theorem Kept.of_below {g : Nat} {w w' : World} (hg : g < w.heap.size) (hb : Below w.heap.size w w') : Kept g w w' := (Kept.refl g w).below hg hb
theorem Kept.rowD {g : Nat} {w w' : World} (h : Kept g w w') {k : Nat} (hk : k < w.heap.size) (hn : k ≠ g) : w'.rowD k = w.rowD k := rowD_congr (h.block k hk hn)
/-- its own blocks, and one older block that it writes -/
structure OwnK (g : Nat) (c : Array Value) (w W : World) (L : List (Nat × Array Value)) : Prop where
  kept : Kept g w W
  row : W.rowD g = c
  blocks : ∀ p ∈ L, w.heap.size ≤ p.1 ∧ p.1 < W.heap.size ∧ W.rowD p.1 = p.2 ∧ ∀ i, W.frozen? ⟨p.1, i, none⟩ = false
end Go
namespace Go.Alm
open Go.RowKit Go.Proofs.YtpoaakdljpdkfaaDoor
abbrev kg : Nat := 1
/-- the table stands where it was laid -/
structure Keyed (w : World) : Prop where
  lt : kg < w.heap.size
  row : w.rowD kg = encU keys
theorem Keyed.below {w w' : World} (h : Keyed w) (hb : Below w.heap.size w w') : Keyed w' := ⟨Nat.lt_of_lt_of_le h.lt hb.size, (rowD_congr (hb.block _ h.lt)).trans h.row⟩
theorem Keyed.kept {w w' : World} {g : Nat} (h : Keyed w) (hb : Kept g w w') (hg : kg ≠ g) : Keyed w' := ⟨Nat.lt_of_lt_of_le h.lt hb.size, (hb.rowD h.lt hg).trans h.row⟩
theorem lt_keys : ∀ v ∈ keys, v < 4294967296 := by decide
theorem len_keys : keys.length = 64 := by decide
theorem len_sched (b : List Nat) : (sched b).length = 64 := by simp [sched, len_moreW, len_words]
end Go.Alm
namespace Go.Proofs.YtpoaakdljpdkfaaDoor
open Go.RowKit Go.Alm
theorem rIU64 (l : List Nat) (hl : l.length = 64) (t : Nat) (ht : t < 64) (w : World) : (Instr.index 235 (.agg (encU l)) (.int .i64 (t : Int))).run Tryd.prog w = .ok (.int .u32 (l.getD t 0 : Nat)) w :=
  run_index_arr 235 24 64 _ _ _ _ (by kernel_rfl) (fun _ => by kernel_rfl) (fun _ => by kernel_rfl) (by omega) (by omega) (by rw [show ((t : Int).toNat) = t by omega]; exact get_encU l t (by omega)) w

theorem lt_roundS (s : List Nat) (k w : Nat) (h : ∀ v ∈ s, v < 4294967296) : ∀ v ∈ roundS s k w, v < 4294967296 := by
  unfold roundS
  split
  · rename_i a b c d e f g hh
    intro v hv
    simp only [List.mem_cons, List.not_mem_nil, or_false] at hv h
    rcases hv with rfl | rfl | rfl | rfl | rfl | rfl | rfl | rfl
    · exact Nat.mod_lt _ (by decide)
    · exact h _ (by simp)
    · exact h _ (by simp)
    · exact h _ (by simp)
    · exact Nat.mod_lt _ (by decide)
    · exact h _ (by simp)
    · exact h _ (by simp)
    · exact h _ (by simp)
  · exact h
theorem lt_rounds (s : List Nat) (kw : List (Nat × Nat)) (h : ∀ v ∈ s, v < 4294967296) : ∀ v ∈ rounds s kw, v < 4294967296 := by
  unfold rounds
  induction kw generalizing s with
  | nil => exact h
  | cons p kw ih => exact ih _ (lt_roundS s _ _ h)
theorem lt_sched (b : List Nat) (hb : ∀ v ∈ b, v < 256) : ∀ v ∈ sched b, v < 4294967296 := lt_moreW 48 _ (lt_words b hb 16)
theorem rounds_take (s : List Nat) (l : List (Nat × Nat)) (t : Nat) (h : t < l.length) : rounds s (l.take (t + 1)) = roundS (rounds s (l.take t)) (l[t].1) (l[t].2) := by
  unfold rounds
  rw [List.take_succ_eq_append_getElem h, List.foldl_append]
  rfl
theorem not32 (e : Nat) (h : e < 4294967296) : bits .xor .u32 IntKind.u32.max (e : Int) = ((4294967295 - e : Nat) : Int) := by
  have h1 := xor32 4294967295 e (by omega) h
  refine Eq.trans h1 ?_
  congr 1
  have h2 : (BitVec.ofNat 32 4294967295 ^^^ BitVec.ofNat 32 e).toNat = 4294967295 ^^^ e := by
    rw [BitVec.toNat_xor, BitVec.toNat_ofNat, BitVec.toNat_ofNat, Nat.mod_eq_of_lt (by omega), Nat.mod_eq_of_lt (by omega)]
  rw [← h2, show BitVec.ofNat 32 4294967295 = BitVec.allOnes 32 from rfl, BitVec.allOnes_xor, BitVec.toNat_not, BitVec.toNat_ofNat, Nat.mod_eq_of_lt (by omega)]
/-- a cell's sum, cell by cell -/
def addTo (s S : List Nat) : Nat → List Nat
  | 0 => s
  | i + 1 => (addTo s S i).set i ((s.getD i 0 + S.getD i 0) % 4294967296)
theorem addTo_all (s S : List Nat) (h : s.length = 8) (h' : S.length = 8) : addTo s S 8 = List.zipWith (fun x y => (x + y) % 4294967296) s S := by
  match s, h, S, h' with
  | [a, b, c, d, e, f, g, i], _, [a', b', c', d', e', f', g', i'], _ => rfl
theorem len_addTo (s S : List Nat) : ∀ i, (addTo s S i).length = s.length
  | 0 => rfl
  | i + 1 => by rw [addTo, List.length_set, len_addTo s S i]
theorem getD_addTo (s S : List Nat) (j : Nat) : ∀ i, i ≤ j → (addTo s S i).getD j 0 = s.getD j 0
  | 0, _ => rfl
  | i + 1, h => by
    rw [addTo, List.getD_eq_getElem?_getD, List.getElem?_set_ne (by omega), ← List.getD_eq_getElem?_getD, getD_addTo s S j i (by omega)]
theorem lt_addTo (s S : List Nat) (h : ∀ v ∈ s, v < 4294967296) : ∀ i, ∀ v ∈ addTo s S i, v < 4294967296
  | 0 => h
  | i + 1 => fun v hv => by
    rcases List.mem_or_eq_of_mem_set hv with hv | rfl
    · exact lt_addTo s S h i v hv
    · exact Nat.mod_lt _ (by decide)
theorem ok_addTo (x : Hs) (S : List Nat) (i : Nat) (h : x.Ok) : Hs.Ok { x with s := addTo x.s S i } :=
  ⟨(len_addTo x.s S i).trans h.sl, h.bl, lt_addTo x.s S h.sb i, h.bb, h.nb⟩
theorem hs_sub (x : Hs) (h : x.Ok) : (encHs x).extract 0 8 = encU x.s := by
  have h1 := h.sl
  apply Array.toList_inj.1
  simp only [encHs, encU, Array.toList_extract, List.extract_eq_take_drop]
  simp [h1]
theorem set_hs_s (x : Hs) (h : x.Ok) (i v : Nat) (hi : i < 8) : (encHs x).setIfInBounds i (.int .u32 (v : Int)) = encHs { x with s := x.s.set i v } := by
  have h1 := h.sl
  apply Array.toList_inj.1
  simp [encHs, List.set_append, h1, hi, List.map_set]

set_option maxRecDepth 20000 in
set_option maxHeartbeats 1000000 in
theorem mix_any (x : Hs) (p : Nat) (w : World) (hx : x.Ok) (hk : Keyed w) (hp : p < w.heap.size) (hpk : kg ≠ p) (row : w.rowD p = encHs x) (fr : ∀ i, w.frozen? ⟨p, i, none⟩ = false) :
    Calls Tryd.prog 149 #[.pointer (some ⟨p, 0, none⟩)] w fun e w' => e = .returned (.tuple #[]) ∧ Kept p w w' ∧ w'.rowD p = encHs { x with s := mix x.s x.b } := by
  have hld := hs_sub x hx
  have hsz := size_encHs x hx
  have hst := fun W g => rSU8 W g 0 x.s (by simpa using hx.sl)
  go_enter Tryd.func149, Tryd.ntmps149
  go_wp2_with fail
  generalize hW : World.alloc w _ = W
  have own : Owns w W [(w.heap.size, encU x.s)] := by
    rw [← all_encU (List.replicate 8 0) x.s (by simp [hx.sl])]
    exact hW ▸ own_one w _ _
  clear hW hst
  have hpW : W.rowD p = encHs x := (rowD_congr (own.below.block p hp)).trans row
  refine (schedule_any x p W hx (Nat.lt_of_lt_of_le hp own.below.size) hpW).mono ?_
  rintro e w1 ⟨rfl, hb1⟩
  have own1 := own.call hb1
  clear own hpW hb1
  go_wp2_with fail
  have hls := len_sched x.b
  have hlb := lt_sched x.b hx.bb
  generalize hS0 : sched x.b = ws at *
  have hS : ∀ _ : Unit, sched x.b = ws := fun _ => hS0
  clear hS0
  have hlz : (keys.zip ws).length = 64 := by simp [len_keys, hls]
  go_loopw [15] (fun i wr => ∃ t : Nat, t ≤ 64 ∧ i = .int .i64 t ∧ Owns w wr [(w.heap.size, encU (rounds x.s ((keys.zip ws).take t)))])
    (fun i _ => 64 - (intOf i).toNat)
  case atStart => exact ⟨0, Nat.zero_le _, rfl, own1⟩
  case round =>
    obtain ⟨t, ht, rfl, own2⟩ := hrel
    obtain ⟨-, lt, row1, fr1⟩ := own2.at1
    have hpr : p < wr.heap.size := Nat.lt_of_lt_of_le hp own2.below.size
    have hrow : wr.rowD p = encHs x := (rowD_congr (own2.below.block p hp)).trans row
    have hkr := hk.below own2.below
    have hlS := length_rounds x.s ((keys.zip ws).take t) hx.sl
    have hltS := lt_rounds x.s ((keys.zip ws).take t) hx.sb
    by_cases hend : t = 64
    · subst hend
      simp only [Int.cast_ofNat_Int]
      go_wp2_with fail
      have htk : (keys.zip ws).take 64 = keys.zip ws := List.take_of_length_le (by omega)
      rw [htk] at own2 row1 hlS
      have hmix : ∀ _ : Unit, mix x.s x.b = addTo x.s (rounds x.s (keys.zip ws)) 8 := fun _ => by
        rw [addTo_all _ _ hx.sl hlS, ← hS ()]; rfl
      have hkp := Kept.of_below hp own2.below
      clear htk hS own1 hkr hltS
      generalize rounds x.s (keys.zip ws) = S at *
      go_loopw [79] (fun i wq => ∃ t : Nat, t ≤ 8 ∧ i = .int .i64 t ∧ Kept p w wq ∧ wq.rowD p = encHs { x with s := addTo x.s S t } ∧ w.heap.size < wq.heap.size ∧ wq.rowD w.heap.size = encU S)
        (fun i _ => 8 - (intOf i).toNat)
      case atStart => exact ⟨0, Nat.zero_le _, rfl, hkp, hrow, lt, row1⟩
      case round =>
        obtain ⟨t, ht, rfl, hkp2, rowp, ltS, rowS⟩ := hrel
        have hok := ok_addTo x S t hx
        have hsz2 := size_encHs _ hok
        have frp : ∀ i, wr.frozen? ⟨p, i, none⟩ = false := fun i => (hkp2.frozen i).trans (fr i)
        have ltp : p < wr.heap.size := Nat.lt_of_lt_of_le hp hkp2.size
        by_cases hend : t = 8
        · subst hend
          simp only [Int.cast_ofNat_Int]
          go_wp2_with fail
          exact bodyPost_end (results_none rfl _ _ _) rfl ⟨rfl, hkp2, by rw [hmix ()]; exact rowp⟩
        · have g1 := hs_s _ hok t (by omega)
          have g2 := get_encU S t (by omega)
          simp only [getD_addTo x.s S t t (Nat.le_refl _)] at g1
          have hset := set_hs_s _ hok t ((x.s.getD t 0 + S.getD t 0) % 4294967296) (by omega)
          have hnx : addTo x.s S (t + 1) = (addTo x.s S t).set t ((x.s.getD t 0 + S.getD t 0) % 4294967296) := rfl
          rw [← hnx] at hset
          have ecast : (((x.s.getD t 0 + S.getD t 0) % 4294967296 : Nat) : Int) = ((x.s.getD t 0 : Nat) + (S.getD t 0 : Nat) : Int) % 4294967296 := by omega
          rw [ecast] at hset
          clear hmix hnx ecast
          generalize x.s.getD t 0 = xv at *
          generalize S.getD t 0 = sv at *
          go_wp2_with fail
          refine wp_region_ext_tail 13 (by kernel_rfl) (by kernel_rfl) ?_
          simp only [List.take_succ_cons, List.take_zero, List.drop_succ_cons, List.drop_zero]
          iterate 13 (refine wpGrow_step (fun K hK => ?_); go_simp; (try go_ints); (try simp only [↓IntWalk.iteOmega]); (try go_simp); refine hK _ ?_; clear hK K)
          refine wpGrow_nil ?_
          intro W1 hb1
          have hkp3 := hkp2.below hp hb1
          have rowp3 : W1.rowD p = _ := (rowD_congr (hb1.block p ltp)).trans rowp
          have frp3 : ∀ i, W1.frozen? ⟨p, i, none⟩ = false := fun i => (hkp3.frozen i).trans (fr i)
          have rowS3 : W1.rowD w.heap.size = encU S := (rowD_congr (hb1.block _ ltS)).trans rowS
          have ltS3 : w.heap.size < W1.heap.size := Nat.lt_of_lt_of_le ltS hb1.size
          clear rowp frp rowS ltS hb1
          go_wp2_with fail
          refine ⟨⟨t + 1, by omega, by go_num, hkp3.setCell _ _, ?_, by simpa using ltS3, ?_⟩, by simp [intOf]; omega⟩
          · rw [rowD_setCell_same, rowp3]; exact hset
          · rw [rowD_setCell_other _ _ _ (show w.heap.size ≠ p by omega)]; exact rowS3
    · have ht' : t < 64 := by omega
      have hrt := rounds_take x.s (keys.zip ws) t (by omega)
      simp only [List.getElem_zip] at hrt
      have hkd : (keys.getD t 0) = keys[t]'(by rw [len_keys]; omega) := by simp [List.getD_eq_getElem?_getD, len_keys, ht']
      have hwd : (ws.getD t 0) = ws[t]'(by omega) := by simp [List.getD_eq_getElem?_getD, hls, ht']
      rw [← hkd, ← hwd] at hrt
      have lk := getD_lt lt_keys t (by omega)
      have lw := getD_lt hlb t (by omega)
      have hix := rIU64 ws hls t ht'
      have hkey : (encU keys)[t]? = some (.int .u32 (keys.getD t 0 : Nat)) := get_encU keys t (by rw [len_keys]; omega)
      have hk1 := hkr.row
      have hk2 := hkr.lt
      generalize keys.getD t 0 = kk at *
      generalize ws.getD t 0 = wk at *
      clear hkd hwd
      generalize rounds x.s ((keys.zip ws).take t) = S at *
      clear own1 hkr hls hlb
      have hk3 : wr.rowD 1 = encU keys := hk1
      have hk4 : 1 < wr.heap.size := hk2
      clear hk1 hk2
      generalize encU keys = EK at hkey hk3
      match S, hlS, hltS with
      | [a, b, c, d, e, f, g, i0], _, hltS =>
        have la : a < 4294967296 := hltS _ (by simp)
        have lb : b < 4294967296 := hltS _ (by simp)
        have lc : c < 4294967296 := hltS _ (by simp)
        have ld : d < 4294967296 := hltS _ (by simp)
        have le : e < 4294967296 := hltS _ (by simp)
        have lf : f < 4294967296 := hltS _ (by simp)
        have lg : g < 4294967296 := hltS _ (by simp)
        have lh : i0 < 4294967296 := hltS _ (by simp)
        have r0 : (encU [a, b, c, d, e, f, g, i0])[0]? = some (.int .u32 (a : Int)) := rfl
        have r1 : (encU [a, b, c, d, e, f, g, i0])[1]? = some (.int .u32 (b : Int)) := rfl
        have r2 : (encU [a, b, c, d, e, f, g, i0])[2]? = some (.int .u32 (c : Int)) := rfl
        have r3 : (encU [a, b, c, d, e, f, g, i0])[3]? = some (.int .u32 (d : Int)) := rfl
        have r4 : (encU [a, b, c, d, e, f, g, i0])[4]? = some (.int .u32 (e : Int)) := rfl
        have r5 : (encU [a, b, c, d, e, f, g, i0])[5]? = some (.int .u32 (f : Int)) := rfl
        have r6 : (encU [a, b, c, d, e, f, g, i0])[6]? = some (.int .u32 (g : Int)) := rfl
        have r7 : (encU [a, b, c, d, e, f, g, i0])[7]? = some (.int .u32 (i0 : Int)) := rfl
        generalize hSS0 : encU [a, b, c, d, e, f, g, i0] = SS at *
        have hSS : ∀ _ : Unit, encU [a, b, c, d, e, f, g, i0] = SS := fun _ => hSS0
        have hrt' : ∀ _ : Unit, _ := fun _ => hrt
        clear hSS0 hrt
        have n1 := not32 e le
        have n2 := and32 e f le lf
        have n3 := and32 (4294967295 - e) g (by omega) lg
        have n4 := xor32 (e &&& f) ((4294967295 - e) &&& g) (Nat.lt_of_le_of_lt Nat.and_le_left le) (Nat.lt_of_le_of_lt Nat.and_le_right lg)
        have m1 := and32 a b la lb
        have m2 := and32 a c la lc
        have m3 := xor32 (a &&& b) (a &&& c) (Nat.lt_of_le_of_lt Nat.and_le_left la) (Nat.lt_of_le_of_lt Nat.and_le_left la)
        have m4 := and32 b c lb lc
        have m5 := xor32 ((a &&& b) ^^^ (a &&& c)) (b &&& c) (Nat.xor_lt_two_pow (n := 32) (Nat.lt_of_le_of_lt Nat.and_le_left la) (Nat.lt_of_le_of_lt Nat.and_le_left la)) (Nat.lt_of_le_of_lt Nat.and_le_left lb)
        have hrs : roundS [a, b, c, d, e, f, g, i0] kk wk = [(((((i0 + sig e 6 11 25) % 4294967296 + ((e &&& f) ^^^ ((4294967295 - e) &&& g))) % 4294967296 + kk) % 4294967296 + wk) % 4294967296 + (sig a 2 13 22 + (((a &&& b) ^^^ (a &&& c)) ^^^ (b &&& c))) % 4294967296) % 4294967296, a, b, c, (d + ((((i0 + sig e 6 11 25) % 4294967296 + ((e &&& f) ^^^ ((4294967295 - e) &&& g))) % 4294967296 + kk) % 4294967296 + wk) % 4294967296) % 4294967296, e, f, g] := rfl
        have lch := Nat.xor_lt_two_pow (n := 32) (Nat.lt_of_le_of_lt (Nat.and_le_left (n := e) (m := f)) le) (Nat.lt_of_le_of_lt (Nat.and_le_right (n := 4294967295 - e) (m := g)) lg)
        have lmj := Nat.xor_lt_two_pow (n := 32) (Nat.xor_lt_two_pow (n := 32) (Nat.lt_of_le_of_lt (Nat.and_le_left (n := a) (m := b)) la) (Nat.lt_of_le_of_lt (Nat.and_le_left (n := a) (m := c)) la)) (Nat.lt_of_le_of_lt (Nat.and_le_left (n := b) (m := c)) lb)
        have hrt2 := hrt' ()
        rw [hrs] at hrt2
        clear hrt' hrs
        have se := sig_lt e 6 11 25 le
        have sa := sig_lt a 2 13 22 la
        have ct1 := fun w => turned_any e 6 11 25 w le (by omega) (by omega) (by omega) (by omega) (by omega) (by omega)
        have ct2 := fun w => turned_any a 2 13 22 w la (by omega) (by omega) (by omega) (by omega) (by omega) (by omega)
        generalize sig e 6 11 25 = ze at *
        generalize sig a 2 13 22 = za at *
        generalize (e &&& f) ^^^ ((4294967295 - e) &&& g) = ch at *
        generalize ((a &&& b) ^^^ (a &&& c)) ^^^ (b &&& c) = mj at *
        generalize (a &&& b) ^^^ (a &&& c) = abc at *
        generalize a &&& b = ab at *
        generalize a &&& c = ac at *
        generalize b &&& c = bc at *
        generalize (4294967295 - e) &&& g = ng at *
        generalize 4294967295 - e = ne at *
        generalize e &&& f = ef at *
        have hrt3 : ∀ _ : Unit, _ := fun _ => hrt2
        clear hrt2
        replace lch : ch < 4294967296 := lch
        replace lmj : mj < 4294967296 := lmj
        go_wp2_with fail
        refine wp_region_ext_tail 14 (by kernel_rfl) (by kernel_rfl) ?_
        simp only [List.take_succ_cons, List.take_zero, List.drop_succ_cons, List.drop_zero]
        iterate 4 (refine wpGrow_step (fun K hK => ?_); go_simp; (try go_ints); (try simp only [↓IntWalk.iteOmega]); (try go_simp); refine hK _ ?_; clear hK K)
        refine wpGrow_step (fun K hK => ?_); go_simp
        apply Exists.intro
        refine ⟨fun _ => Calls.grow_of (ct1 _) rfl, hK _ ?_⟩; clear hK K
        iterate 9 (refine wpGrow_step (fun K hK => ?_); go_simp; (try go_ints); (try simp only [↓IntWalk.iteOmega]); (try go_simp); refine hK _ ?_; clear hK K)
        refine wpGrow_nil ?_
        intro W1 hb1
        have own3 := own2.call hb1
        have hk5 : W1.rowD 1 = EK := (rowD_congr (hb1.block 1 hk4)).trans hk3
        clear own2 lt row1 fr1 hk3 hb1
        obtain ⟨-, lt, row1, fr1⟩ := own3.at1
        go_wp2_with fail
        refine wp_region_ext_tail 21 (by kernel_rfl) (by kernel_rfl) ?_
        simp only [List.take_succ_cons, List.take_zero, List.drop_succ_cons, List.drop_zero]
        iterate 2 (refine wpGrow_step (fun K hK => ?_); go_simp; (try go_ints); (try simp only [↓IntWalk.iteOmega]); (try go_simp); refine hK _ ?_; clear hK K)
        refine wpGrow_step (fun K hK => ?_); go_simp
        apply Exists.intro
        refine ⟨fun _ => Calls.grow_of (ct2 _) rfl, hK _ ?_⟩; clear hK K
        iterate 18 (refine wpGrow_step (fun K hK => ?_); go_simp; (try go_ints); (try simp only [↓IntWalk.iteOmega]); (try go_simp); refine hK _ ?_; clear hK K)
        refine wpGrow_nil ?_
        intro W2 hb2
        have own4 := own3.call hb2
        clear own3 lt row1 fr1 hk5 hb2 hk4
        obtain ⟨-, lt, row1, fr1⟩ := own4.at1
        go_wp2_with fail
        refine wp_region_ext_tail 2 (by kernel_rfl) (by kernel_rfl) ?_
        simp only [List.take_succ_cons, List.take_zero, List.drop_succ_cons, List.drop_zero]
        iterate 2 (refine wpGrow_step (fun K hK => ?_); go_simp; (try go_ints); (try simp only [↓IntWalk.iteOmega]); (try go_simp); refine hK _ ?_; clear hK K)
        refine wpGrow_nil ?_
        intro W3 hb3
        have own5 := own4.call hb3
        clear own4 lt row1 fr1 hb3
        obtain ⟨-, lt, row1, fr1⟩ := own5.at1
        have hcp := fun ty => run_copyD (P := Tryd.prog) W3 50 50 ty 24 w.heap.size 1 7 7 w.heap.size 0 7 8 7 (by kernel_rfl) (by kernel_rfl) rfl (by rw [row1, ← hSS ()]; simp) (by rw [row1, ← hSS ()]; simp) fr1 (by rw [row1, ← hSS ()]; exact one_encU _)
        have hsp : spliceL SS 1 (List.take 7 SS.toList) = encU [a, a, b, c, d, e, f, g] := by rw [← hSS ()]; rfl
        have q0 : (encU [a, a, b, c, d, e, f, g])[0]? = some (.int .u32 (a : Int)) := rfl
        have q4 : (encU [a, a, b, c, d, e, f, g])[4]? = some (.int .u32 (d : Int)) := rfl
        clear r0 r1 r2 r3 r4 r5 r6 r7 n1 n2 n3 n4 m1 m2 m3 m4 m5 ct1 ct2
        generalize hTT0 : encU [a, a, b, c, d, e, f, g] = TT at *
        have hTT : ∀ _ : Unit, encU [a, a, b, c, d, e, f, g] = TT := fun _ => hTT0
        clear hTT0
        go_wp2_with fail
        refine ⟨⟨t + 1, by omega, by go_num, ?_⟩, by simp [intOf]; omega⟩
        rw [hrt3 ()]
        have own6 := own5.setCells w.heap.size 1 (List.take 7 SS.toList) (Nat.le_refl _)
        simp only [List.map_cons, List.map_nil, if_true, hsp, ← hTT ()] at own6
        exact Owns.setV (v' := .int .u32 (((((((i0 + ze) % 4294967296 + ch) % 4294967296 + kk) % 4294967296 + wk) % 4294967296 + (za + mj) % 4294967296) % 4294967296 : Nat) : Int))
          (Owns.setV (v' := .int .u32 (((d + ((((i0 + ze) % 4294967296 + ch) % 4294967296 + kk) % 4294967296 + wk) % 4294967296) % 4294967296 : Nat) : Int)) own6 w.heap.size 4 (Nat.le_refl _) (congrArg _ (by omega)) rfl)
          w.heap.size 0 (Nat.le_refl _) (congrArg _ (by omega)) (by simp only [List.map_cons, List.map_nil, if_true, set_encU]; rfl)
end Go.Proofs.YtpoaakdljpdkfaaDoor

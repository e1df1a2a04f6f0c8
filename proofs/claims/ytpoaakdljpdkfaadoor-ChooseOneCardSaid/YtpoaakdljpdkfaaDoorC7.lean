/- THE WALKS OF sha: schedule. -/
import Derived.Test.YtpoaakdljpdkfaaDoorC6
import Derived.Test.YtpoaakdljpdkfaaDoorTy
set_option linter.unusedSimpArgs false
set_option linter.unusedVariables false
namespace Go
theorem Owns.setV {w W : World} {L L' : List (Nat × Array Value)} (h : Owns w W L) {v v' : Value} (g i : Nat) (hg : w.heap.size ≤ g) (hv : v = v') (hL : (L.map fun p => if p.1 = g then (p.1, p.2.setIfInBounds i v') else p) = L') : Owns w (W.setCell ⟨g, i, none⟩ v) L' := by
  subst hv; subst hL; exact h.setCell g i v hg
end Go
namespace Go.Alm
open Go.RowKit
/-- numbers of 32 bits, bytes -/
def encU (l : List Nat) : Array Value := (l.map fun n : Nat => Value.int .u32 (n : Int)).toArray
def encB (l : List Nat) : Array Value := (l.map fun n : Nat => Value.int .u8 (n : Int)).toArray
@[simp, go_sem] theorem size_encU (l : List Nat) : (encU l).size = l.length := by simp [encU]
@[simp, go_sem] theorem size_encB (l : List Nat) : (encB l).size = l.length := by simp [encB]
theorem get_encU (l : List Nat) (t : Nat) (h : t < l.length) : (encU l)[t]? = some (.int .u32 (l.getD t 0 : Nat)) := by simp [encU, h]
theorem get_encB (l : List Nat) (t : Nat) (h : t < l.length) : (encB l)[t]? = some (.int .u8 (l.getD t 0 : Nat)) := by simp [encB, h]
@[go_sem] theorem set_encU (l : List Nat) (t v : Nat) : (encU l).setIfInBounds t (.int .u32 (v : Int)) = encU (l.set t v) := by
  apply Array.toList_inj.1; simp [encU, List.map_set]
@[go_sem] theorem set_encB (l : List Nat) (t v : Nat) : (encB l).setIfInBounds t (.int .u8 (v : Int)) = encB (l.set t v) := by
  apply Array.toList_inj.1; simp [encB, List.map_set]
theorem one_encU (l : List Nat) : ∀ v ∈ (encU l).toList, v.oneCell' = true := by intro v hv; simp only [encU, List.mem_map] at hv; obtain ⟨n, _, rfl⟩ := hv; rfl
theorem one_encB (l : List Nat) : ∀ v ∈ (encB l).toList, v.oneCell' = true := by intro v hv; simp only [encB, List.mem_map] at hv; obtain ⟨n, _, rfl⟩ := hv; rfl

/-- what a hasher holds -/
structure Hs where
  s : List Nat
  b : List Nat
  n : Nat
structure Hs.Ok (x : Hs) : Prop where
  sl : x.s.length = 8
  bl : x.b.length = 64
  sb : ∀ v ∈ x.s, v < 4294967296
  bb : ∀ v ∈ x.b, v < 256
  nb : x.n < 18446744073709551616
def encHs (x : Hs) : Array Value := (x.s.map (fun n : Nat => Value.int .u32 (n : Int)) ++ (x.b.map (fun n : Nat => Value.int .u8 (n : Int)) ++ [Value.int .u64 (x.n : Int)])).toArray
theorem one_encHs (x : Hs) : ∀ v ∈ (encHs x).toList, v.oneCell' = true := by
  intro v hv
  simp only [encHs, List.mem_append, List.mem_map, List.mem_singleton] at hv
  rcases hv with ⟨n, _, rfl⟩ | ⟨n, _, rfl⟩ | rfl <;> rfl
theorem size_encHs (x : Hs) (h : x.Ok) : (encHs x).size = 73 := by simp [encHs, h.sl, h.bl]
theorem getD_lt {l : List Nat} {B : Nat} (h : ∀ v ∈ l, v < B) (i : Nat) (hB : 0 < B) : l.getD i 0 < B := by
  rw [List.getD_eq_getElem?_getD]
  rcases Nat.lt_or_ge i l.length with h1 | h1
  · rw [List.getElem?_eq_getElem h1]; exact h _ (List.getElem_mem h1)
  · rw [List.getElem?_eq_none h1]; exact hB
theorem hs_s (x : Hs) (h : x.Ok) (i : Nat) (hi : i < 8) : (encHs x)[i]? = some (.int .u32 (x.s.getD i 0 : Nat)) := by
  have := h.sl
  simp [encHs, List.getElem?_append, show i < x.s.length by omega]
theorem hs_b (x : Hs) (h : x.Ok) (i : Nat) (hi : i < 64) : (encHs x)[8 + i]? = some (.int .u8 (x.b.getD i 0 : Nat)) := by
  have h1 := h.sl; have h2 := h.bl
  simp [encHs, List.getElem?_append, h1, h2, hi]
theorem hs_n (x : Hs) (h : x.Ok) : (encHs x)[72]? = some (.int .u64 (x.n : Nat)) := by
  have := h.sl; have := h.bl
  simp [encHs, List.getElem?_append, show ¬ 72 < x.s.length by omega, show ¬ 72 - x.s.length < x.b.length by omega, show 72 - x.s.length - x.b.length = 0 by omega]
/-- a byte put behind a number -/
theorem join8 (v c : Nat) (hv : v < 16777216) (hc : c < 256) : bits .or .u32 ((v : Int) * 256) (c : Int) = ((v * 256 + c : Nat) : Int) := by
  have h1 := Go.Proofs.YtpoaakdljpdkfaaDoor.or32 (v * 256) c (by omega) (by omega)
  rw [Int.natCast_mul] at h1
  refine Eq.trans h1 ?_
  have := Nat.two_pow_add_eq_or_of_lt (i := 8) (b := c) (by omega) v
  rw [show v * 256 = 2 ^ 8 * v by omega, ← this]
theorem join8_0 (c : Nat) (hc : c < 256) : bits .or .u32 0 (c : Int) = (c : Int) := by
  have := join8 0 c (by omega) hc
  simpa using this
end Go.Alm
namespace Go.Proofs.YtpoaakdljpdkfaaDoor
open Go.RowKit Go.Alm
theorem aggU64 (w : World) : (isAgg 235).run Tryd.prog w = .ok true w := by kernel_rfl
theorem sizU64 (w : World) : (Go.sizeOf 235).run Tryd.prog w = .ok 64 w := by kernel_rfl
@[go_sem ↓] theorem exLU64 (ρ : Operand → Value) (dst : Option Tmp) (x : Operand) (ty : TypeId) (pos : String) (after : Array Edge) (guard : Option (Nat × Bool)) : execOp ρ { dst, op := .load 235 x, type := ty, pos, after, guard } = loadK 235 (ρ x) := rfl
@[go_sem ↓] theorem exSU64 (ρ : Operand → Value) (dst : Option Tmp) (x : Operand) (ty : TypeId) (pos : String) (after : Array Edge) (guard : Option (Nat × Bool)) (y : Operand) : execOp ρ { dst, op := .store 235 x y, type := ty, pos, after, guard } = storeK 235 (ρ x) (ρ y) := rfl
@[go_sem] theorem rLU64 (w : World) (g o : Nat) (h : o + 64 ≤ (w.rowD g).size) : (loadK 235 (.pointer (some ⟨g, o, none⟩))).run Tryd.prog w = .ok (.value (.agg ((w.rowD g).extract o (o + 64)))) w := run_loadK 235 64 aggU64 sizU64 w g o h
theorem rVU64 (w : World) (g o : Nat) (h : o + 64 ≤ (w.rowD g).size) : (loadVar 235 ⟨g, o, none⟩).run Tryd.prog w = .ok (.agg ((w.rowD g).extract o (o + 64))) w := run_loadVar_rowD 235 64 aggU64 sizU64 w g o h
theorem rSU64 (w : World) (g o : Nat) (x : List Nat) (hx : (encU x).size = 64) (h : o + 64 ≤ (w.rowD g).size) (hf : ∀ i, w.frozen? ⟨g, i, none⟩ = false) : (storeK 235 (.pointer (some ⟨g, o, none⟩)) (.agg (encU x))).run Tryd.prog w = .ok .skip (w.setCells g o (encU x).toList) := run_storeK 235 64 sizU64 w g o _ hx (one_encU x) h hf
theorem rWU64 (w : World) (g : Nat) (x : List Nat) (hx : (encU x).size = 64) (h : w.rowD g = encU x) : (loadVar 235 ⟨g, 0, none⟩).run Tryd.prog w = .ok (.agg (encU x)) w := by
  rw [rVU64 w g 0 (by rw [h, hx]; omega), h, show 0 + 64 = (encU x).size by rw [hx], Array.extract_size]
theorem aggU8 (w : World) : (isAgg 215).run Tryd.prog w = .ok true w := by kernel_rfl
theorem sizU8 (w : World) : (Go.sizeOf 215).run Tryd.prog w = .ok 8 w := by kernel_rfl
@[go_sem ↓] theorem exLU8 (ρ : Operand → Value) (dst : Option Tmp) (x : Operand) (ty : TypeId) (pos : String) (after : Array Edge) (guard : Option (Nat × Bool)) : execOp ρ { dst, op := .load 215 x, type := ty, pos, after, guard } = loadK 215 (ρ x) := rfl
@[go_sem ↓] theorem exSU8 (ρ : Operand → Value) (dst : Option Tmp) (x : Operand) (ty : TypeId) (pos : String) (after : Array Edge) (guard : Option (Nat × Bool)) (y : Operand) : execOp ρ { dst, op := .store 215 x y, type := ty, pos, after, guard } = storeK 215 (ρ x) (ρ y) := rfl
@[go_sem] theorem rLU8 (w : World) (g o : Nat) (h : o + 8 ≤ (w.rowD g).size) : (loadK 215 (.pointer (some ⟨g, o, none⟩))).run Tryd.prog w = .ok (.value (.agg ((w.rowD g).extract o (o + 8)))) w := run_loadK 215 8 aggU8 sizU8 w g o h
theorem rVU8 (w : World) (g o : Nat) (h : o + 8 ≤ (w.rowD g).size) : (loadVar 215 ⟨g, o, none⟩).run Tryd.prog w = .ok (.agg ((w.rowD g).extract o (o + 8))) w := run_loadVar_rowD 215 8 aggU8 sizU8 w g o h
theorem rSU8 (w : World) (g o : Nat) (x : List Nat) (hx : (encU x).size = 8) (h : o + 8 ≤ (w.rowD g).size) (hf : ∀ i, w.frozen? ⟨g, i, none⟩ = false) : (storeK 215 (.pointer (some ⟨g, o, none⟩)) (.agg (encU x))).run Tryd.prog w = .ok .skip (w.setCells g o (encU x).toList) := run_storeK 215 8 sizU8 w g o _ hx (one_encU x) h hf
theorem rWU8 (w : World) (g : Nat) (x : List Nat) (hx : (encU x).size = 8) (h : w.rowD g = encU x) : (loadVar 215 ⟨g, 0, none⟩).run Tryd.prog w = .ok (.agg (encU x)) w := by
  rw [rVU8 w g 0 (by rw [h, hx]; omega), h, show 0 + 8 = (encU x).size by rw [hx], Array.extract_size]
theorem aggHs (w : World) : (isAgg 234).run Tryd.prog w = .ok true w := by kernel_rfl
theorem sizHs (w : World) : (Go.sizeOf 234).run Tryd.prog w = .ok 73 w := by kernel_rfl
@[go_sem ↓] theorem exLHs (ρ : Operand → Value) (dst : Option Tmp) (x : Operand) (ty : TypeId) (pos : String) (after : Array Edge) (guard : Option (Nat × Bool)) : execOp ρ { dst, op := .load 234 x, type := ty, pos, after, guard } = loadK 234 (ρ x) := rfl
@[go_sem ↓] theorem exSHs (ρ : Operand → Value) (dst : Option Tmp) (x : Operand) (ty : TypeId) (pos : String) (after : Array Edge) (guard : Option (Nat × Bool)) (y : Operand) : execOp ρ { dst, op := .store 234 x y, type := ty, pos, after, guard } = storeK 234 (ρ x) (ρ y) := rfl
@[go_sem] theorem rLHs (w : World) (g o : Nat) (h : o + 73 ≤ (w.rowD g).size) : (loadK 234 (.pointer (some ⟨g, o, none⟩))).run Tryd.prog w = .ok (.value (.agg ((w.rowD g).extract o (o + 73)))) w := run_loadK 234 73 aggHs sizHs w g o h
theorem rVHs (w : World) (g o : Nat) (h : o + 73 ≤ (w.rowD g).size) : (loadVar 234 ⟨g, o, none⟩).run Tryd.prog w = .ok (.agg ((w.rowD g).extract o (o + 73))) w := run_loadVar_rowD 234 73 aggHs sizHs w g o h
theorem rSHs (w : World) (g o : Nat) (x : Hs) (hx : (encHs x).size = 73) (h : o + 73 ≤ (w.rowD g).size) (hf : ∀ i, w.frozen? ⟨g, i, none⟩ = false) : (storeK 234 (.pointer (some ⟨g, o, none⟩)) (.agg (encHs x))).run Tryd.prog w = .ok .skip (w.setCells g o (encHs x).toList) := run_storeK 234 73 sizHs w g o _ hx (one_encHs x) h hf
theorem rWHs (w : World) (g : Nat) (x : Hs) (hx : (encHs x).size = 73) (h : w.rowD g = encHs x) : (loadVar 234 ⟨g, 0, none⟩).run Tryd.prog w = .ok (.agg (encHs x)) w := by
  rw [rVHs w g 0 (by rw [h, hx]; omega), h, show 0 + 73 = (encHs x).size by rw [hx], Array.extract_size]
theorem all_encU (l m : List Nat) (h : m.length = l.length) : spliceL (encU l) 0 (encU m).toList = encU m := by rw [spliceL_all _ _ (by simpa using h)]
theorem whole_encU (l : List Nat) (n : Nat) (h : l.length = n) : (encU l).extract 0 n = encU l := by rw [← h, ← size_encU l]; exact Array.extract_size
theorem len_moreW : ∀ (n : Nat) (w : List Nat), (moreW n w).length = w.length + n
  | 0, _ => rfl
  | n + 1, w => by simp only [moreW, List.length_append, len_moreW n w, List.length_cons, List.length_nil]; omega
theorem lt_nextW (w : List Nat) : nextW w < 4294967296 := by unfold nextW; exact Nat.mod_lt _ (by decide)
theorem lt_moreW : ∀ (n : Nat) (w : List Nat), (∀ v ∈ w, v < 4294967296) → ∀ v ∈ moreW n w, v < 4294967296
  | 0, _, h => h
  | n + 1, w, h => by
    intro v hv
    simp only [moreW, List.mem_append, List.mem_singleton] at hv
    rcases hv with hv | rfl
    · exact lt_moreW n w h v hv
    · exact lt_nextW _
theorem lt_words (b : List Nat) (hb : ∀ v ∈ b, v < 256) (t : Nat) : ∀ v ∈ words b t, v < 4294967296 := by
  intro v hv
  simp only [words, List.mem_map] at hv
  obtain ⟨i, _, rfl⟩ := hv
  have h0 := getD_lt hb (4 * i) (by omega)
  have h1 := getD_lt hb (4 * i + 1) (by omega)
  have h2 := getD_lt hb (4 * i + 2) (by omega)
  have h3 := getD_lt hb (4 * i + 3) (by omega)
  unfold be4
  omega
theorem getD_pad (l : List Nat) (m i : Nat) (h : i < l.length) : (l ++ List.replicate m 0).getD i 0 = l.getD i 0 := by
  simp [List.getD_eq_getElem?_getD, List.getElem?_append_left h]

theorem slice64 (p o t : Nat) (ht : t < 16) (w : World) : (Instr.sliceAt 232 (.pointer (some ⟨p, o, none⟩)) (some (.int .i64 (4 * (t : Int)))) (some (.int .i64 (4 * (t : Int) + 4))) none).run Tryd.prog w = .ok (.slice (some ⟨p, o + 4 * t, none⟩) 4 (64 - 4 * t)) w := by
  have hu : Tryd.prog.underlying 232 = some (.array (Tryd.prog.arrayLen 232) (Tryd.prog.elem 232)) := by kernel_rfl
  have hn : Tryd.prog.arrayLen 232 = 64 := by kernel_rfl
  have hs : ∀ w, (Go.sizeOf (Tryd.prog.elem 232)).run Tryd.prog w = .ok 1 w := fun _ => by kernel_rfl
  rw [run_sliceAt_array_lh w _ _ hu _ _ _ _ (by omega) (by omega) (by rw [hn]; omega), hs, hn]
  simp only [Result.andThen_ok, slicedAt, show ((4 * (t : Int)).toNat) = 4 * t by omega, show ((4 * (t : Int) + 4).toNat) = 4 * t + 4 by omega, if_neg (show ¬ 64 = 4 * t by omega), Nat.mul_one, addr_mid, show 4 * t + 4 - 4 * t = 4 by omega]
theorem words_succ (b : List Nat) (t : Nat) : words b (t + 1) = words b t ++ [be4 (b.getD (4*t) 0) (b.getD (4*t+1) 0) (b.getD (4*t+2) 0) (b.getD (4*t+3) 0)] := by simp [words, List.range_succ]
theorem len_words (b : List Nat) (t : Nat) : (words b t).length = t := by simp [words]
theorem set_pad (l : List Nat) (m v : Nat) : (l ++ List.replicate (m + 1) 0).set l.length v = (l ++ [v]) ++ List.replicate m 0 := by
  simp [List.replicate_succ]

set_option maxRecDepth 20000 in
set_option maxHeartbeats 1000000 in
theorem schedule_any (x : Hs) (p : Nat) (w : World) (hx : x.Ok) (hp : p < w.heap.size) (row : w.rowD p = encHs x) :
    Calls Tryd.prog 159 #[.pointer (some ⟨p, 0, none⟩)] w fun e w' => e = .returned (.agg (encU (sched x.b))) ∧ Below w.heap.size w w' := by
  go_enter Tryd.func159, Tryd.ntmps159
  go_wp2_with fail
  generalize hW : World.alloc (World.alloc w _) _ = W
  have own : Owns w W [(w.heap.size, encU (List.replicate 64 0)), (w.heap.size + 1, encU (List.replicate 64 0))] := hW ▸ own_two w _ _ _ _
  clear hW
  go_loopw [8] (fun i wr => ∃ t : Nat, t ≤ 16 ∧ i = .int .i64 t ∧ Owns w wr [(w.heap.size, encU (List.replicate 64 0)), (w.heap.size + 1, encU (words x.b t ++ List.replicate (64 - t) 0))])
    (fun i _ => 16 - (intOf i).toNat)
  case atStart => exact ⟨0, Nat.zero_le _, rfl, own⟩
  case round =>
    obtain ⟨t, ht, rfl, own1⟩ := hrel
    obtain ⟨-, lt, row1, fr⟩ := own1.at2
    have hrow : wr.rowD p = encHs x := (rowD_congr (own1.below.block p hp)).trans row
    have hpr : p < wr.heap.size := Nat.lt_of_lt_of_le hp own1.below.size
    have hne : p ≠ w.heap.size + 1 := by omega
    by_cases hend : t = 16
    · subst hend
      simp only [Int.cast_ofNat_Int]
      go_wp2_with fail
      have own2 : Owns w wr [(w.heap.size, encU (List.replicate 64 0)), (w.heap.size + 1, encU (moreW 0 (words x.b 16) ++ List.replicate (64 - 16) 0))] := own1
      clear own own1 lt row1 fr hrow hpr hne
      go_loopw [7] (fun i wr => ∃ t : Nat, t ≤ 48 ∧ i = .int .i64 (16 + t : Nat) ∧ Owns w wr [(w.heap.size, encU (List.replicate 64 0)), (w.heap.size + 1, encU (moreW t (words x.b 16) ++ List.replicate (48 - t) 0))])
        (fun i _ => 64 - (intOf i).toNat)
      case atStart => exact ⟨0, Nat.zero_le _, rfl, own2⟩
      case round =>
        obtain ⟨t, ht, rfl, own1⟩ := hrel
        obtain ⟨-, lt, row1, fr⟩ := own1.at2
        obtain ⟨-, lt0, row0, fr0⟩ := own1.at1
        by_cases hend : t = 48
        · subst hend
          have hsch : moreW 48 (words x.b 16) ++ List.replicate (48 - 48) 0 = sched x.b := by simp [sched]
          rw [hsch] at row1 own1
          have hl : (sched x.b).length = 64 := by rw [← hsch]; simp [len_moreW, len_words]
          have hld := whole_encU (sched x.b) 64 hl
          have hst := fun h1 => rSU64 wr w.heap.size 0 (sched x.b) (by simpa using hl) h1 fr0
          clear hsch
          go_wp2_with fail
          exact ret_cell rfl rfl rfl (rWU64 _ _ (sched x.b) (by simpa using hl) (by rw [rowD_setCells_same, row0, all_encU _ _ (by simpa using hl)])) ⟨rfl, below_setCells _ (by omega) _ _ _ _ own1.below⟩
        · have ht' : t < 48 := by omega
          have hnext := fun m => set_pad (moreW t (words x.b 16)) m (nextW (moreW t (words x.b 16)))
          have hlm : (moreW t (words x.b 16)).length = 16 + t := by rw [len_moreW, len_words]
          have hmw : moreW (t + 1) (words x.b 16) = moreW t (words x.b 16) ++ [nextW (moreW t (words x.b 16))] := rfl
          have hlt := lt_moreW t _ (lt_words x.b hx.bb 16)
          generalize moreW t (words x.b 16) = M at *
          have hnw : nextW M = (((shf (M.getD (16 + t - 2) 0) 17 19 10 + M.getD (16 + t - 7) 0) % 4294967296 + shf (M.getD (16 + t - 15) 0) 7 18 3) % 4294967296 + M.getD (16 + t - 16) 0) % 4294967296 := by
            unfold nextW; simp only [hlm]
          have hd2 := getD_pad M (48 - t) (16 + t - 2) (by omega)
          have hd7 := getD_pad M (48 - t) (16 + t - 7) (by omega)
          have hd15 := getD_pad M (48 - t) (16 + t - 15) (by omega)
          have hd16 := getD_pad M (48 - t) (16 + t - 16) (by omega)
          have hll : (M ++ List.replicate (48 - t) 0).length = 64 := by simp; omega
          have g2 := get_encU (M ++ List.replicate (48 - t) 0) (16 + t - 2) (by omega)
          have g7 := get_encU (M ++ List.replicate (48 - t) 0) (16 + t - 7) (by omega)
          have g15 := get_encU (M ++ List.replicate (48 - t) 0) (16 + t - 15) (by omega)
          have g16 := get_encU (M ++ List.replicate (48 - t) 0) (16 + t - 16) (by omega)
          rw [hd2] at g2; rw [hd7] at g7; rw [hd15] at g15; rw [hd16] at g16
          have l2 := getD_lt hlt (16 + t - 2) (by omega)
          have l7 := getD_lt hlt (16 + t - 7) (by omega)
          have l15 := getD_lt hlt (16 + t - 15) (by omega)
          have l16 := getD_lt hlt (16 + t - 16) (by omega)
          generalize M.getD (16 + t - 2) 0 = m2 at *
          generalize M.getD (16 + t - 7) 0 = m7 at *
          generalize M.getD (16 + t - 15) 0 = m15 at *
          generalize M.getD (16 + t - 16) 0 = m16 at *
          clear hd2 hd7 hd15 hd16
          have g16' := g16
          rw [show 16 + t - 16 = t by omega] at g16'
          generalize hL : M ++ List.replicate (48 - t) 0 = L at *
          go_wp2_with fail
          refine wp_region_ext_tail 23 (by kernel_rfl) (by kernel_rfl) ?_
          simp only [List.take_succ_cons, List.take_zero, List.drop_succ_cons, List.drop_zero]
          iterate 5 (refine wpGrow_step (fun K hK => ?_); go_simp; (try go_ints); (try simp only [↓IntWalk.iteOmega]); (try go_simp); refine hK _ ?_; clear hK K)
          refine wpGrow_step (fun K hK => ?_); go_simp
          apply Exists.intro
          refine ⟨fun _ => Calls.grow_of (shifted_any m2 17 19 10 _ l2 (by omega) (by omega) (by omega) (by omega) (by omega) (by omega)) rfl, hK _ ?_⟩; clear hK K
          iterate 9 (refine wpGrow_step (fun K hK => ?_); go_simp; (try go_ints); (try simp only [↓IntWalk.iteOmega]); (try go_simp); refine hK _ ?_; clear hK K)
          refine wpGrow_step (fun K hK => ?_); go_simp
          apply Exists.intro
          refine ⟨fun _ => Calls.grow_of (shifted_any m15 7 18 3 _ l15 (by omega) (by omega) (by omega) (by omega) (by omega) (by omega)) rfl, hK _ ?_⟩; clear hK K
          iterate 7 (refine wpGrow_step (fun K hK => ?_); go_simp; (try go_ints); (try simp only [↓IntWalk.iteOmega]); (try go_simp); refine hK _ ?_; clear hK K)
          refine wpGrow_nil ?_
          intro W1 hb1
          have own3 := own1.call hb1
          clear own1 lt row1 fr lt0 row0 fr0 own2 g2 g7 g15 g16 g16'
          obtain ⟨-, lt, row1, fr⟩ := own3.at2
          have hlL : 16 + t < L.length := by omega
          have s2 := shf_lt m2 17 19 10 l2
          have s15 := shf_lt m15 7 18 3 l15
          generalize shf m2 17 19 10 = z2 at *
          generalize shf m15 7 18 3 = z15 at *
          have hcell := get_encU L (16 + t) hlL
          go_wp2_with fail
          go_roundw
          case rel =>
            refine ⟨t + 1, by omega, by go_num, ?_⟩
            refine own3.setV (v' := .int .u32 ((nextW M : Nat) : Int)) (w.heap.size + 1) (16 + t) (by omega) ?_ ?_
            · refine congrArg _ ?_
              omega
            · have hne' : ¬ w.heap.size = w.heap.size + 1 := by omega
              have hs := hnext (47 - t)
              rw [show 47 - t + 1 = 48 - t by omega, hL, hlm] at hs
              simp only [List.map_cons, List.map_nil, if_neg hne', if_true, set_encU]
              rw [hs, hmw, show 48 - (t + 1) = 47 - t by omega]
          case measure => simp [intOf]; omega
    · have ht' : t < 16 := by omega
      generalize hL : words x.b t ++ List.replicate (64 - t) 0 = L at row1 own1
      have hlen : L.length = 64 := by rw [← hL]; simp [len_words]; omega
      have g0 : (encU L)[t]? = some (.int .u32 0) := by
        rw [get_encU L t (by omega), ← hL]
        have : (words x.b t ++ List.replicate (64 - t) 0).getD t 0 = 0 := by
          rw [List.getD_eq_getElem?_getD, List.getElem?_append_right (by rw [len_words]; omega), len_words, Nat.sub_self]
          rw [List.getElem?_replicate]
          split <;> rfl
        rw [this]; rfl
      have gs : ∀ v : Nat, (encU (L.set t v))[t]? = some (.int .u32 (v : Int)) := fun v => by
        rw [get_encU _ t (by simp; omega)]; simp [hlen, show t < 64 by omega]
      have b0 := hs_b x hx (4 * t) (by omega)
      have b1 := hs_b x hx (4 * t + 1) (by omega)
      have b2 := hs_b x hx (4 * t + 2) (by omega)
      have b3 := hs_b x hx (4 * t + 3) (by omega)
      have l0 : x.b.getD (4 * t) 0 < 256 := getD_lt hx.bb _ (by omega)
      have l1 : x.b.getD (4 * t + 1) 0 < 256 := getD_lt hx.bb _ (by omega)
      have l2 : x.b.getD (4 * t + 2) 0 < 256 := getD_lt hx.bb _ (by omega)
      have l3 : x.b.getD (4 * t + 3) 0 < 256 := getD_lt hx.bb _ (by omega)
      have hw := words_succ x.b t
      generalize x.b.getD (4 * t) 0 = c0 at *
      generalize x.b.getD (4 * t + 1) 0 = c1 at *
      generalize x.b.getD (4 * t + 2) 0 = c2 at *
      generalize x.b.getD (4 * t + 3) 0 = c3 at *
      have j0 := join8_0 c0 l0
      have j1 := join8 c0 c1 (by omega) l1
      have hbe : be4 c0 c1 c2 c3 = ((c0 * 256 + c1) * 256 + c2) * 256 + c3 := rfl
      rw [hbe] at hw
      clear hbe
      obtain ⟨v1, hv1⟩ : ∃ v, v = c0 * 256 + c1 := ⟨_, rfl⟩
      have lv1 : v1 < 65536 := by omega
      rw [← hv1] at j1 hw
      have j2 := join8 v1 c2 (by omega) l2
      obtain ⟨v2, hv2⟩ : ∃ v, v = v1 * 256 + c2 := ⟨_, rfl⟩
      have lv2 : v2 < 16777216 := by omega
      rw [← hv2] at j2 hw
      have j3 := join8 v2 c3 lv2 l3
      obtain ⟨v3, hv3⟩ : ∃ v, v = v2 * 256 + c3 := ⟨_, rfl⟩
      have lv3 : v3 < 4294967296 := by omega
      rw [← hv3] at j3 hw
      clear hv1 hv2 hv3
      rw [← Nat.add_assoc] at b1 b2 b3
      have hne' : ¬ w.heap.size = w.heap.size + 1 := by omega
      have hsl := slice64 p 8 t ht'
      go_wp2_with fail
      clear hsl
      refine wp_loop_rounds 5 ?_
      rw [rounds_succ]; go_wp2_with fail
      have ownr1 := own1.setCell (w.heap.size + 1) t (.int .u32 ((c0 : Nat) : Int)) (by omega)
      simp only [List.map_cons, List.map_nil, if_neg hne', if_true, set_encU, List.set_set] at ownr1
      generalize World.setCell _ _ _ = wr1 at ownr1 ⊢
      clear lt row1 fr hrow hpr own1
      obtain ⟨-, lt, row1, fr⟩ := ownr1.at2
      have hrow : wr1.rowD p = encHs x := (rowD_congr (ownr1.below.block p hp)).trans row
      have hpr : p < wr1.heap.size := Nat.lt_of_lt_of_le hp ownr1.below.size
      rw [rounds_succ]; go_wp2_with fail
      have ownr2 := ownr1.setCell (w.heap.size + 1) t (.int .u32 ((v1 : Nat) : Int)) (by omega)
      simp only [List.map_cons, List.map_nil, if_neg hne', if_true, set_encU, List.set_set] at ownr2
      generalize World.setCell _ _ _ = wr2 at ownr2 ⊢
      clear lt row1 fr hrow hpr ownr1
      obtain ⟨-, lt, row1, fr⟩ := ownr2.at2
      have hrow : wr2.rowD p = encHs x := (rowD_congr (ownr2.below.block p hp)).trans row
      have hpr : p < wr2.heap.size := Nat.lt_of_lt_of_le hp ownr2.below.size
      rw [rounds_succ]; go_wp2_with fail
      have ownr3 := ownr2.setCell (w.heap.size + 1) t (.int .u32 ((v2 : Nat) : Int)) (by omega)
      simp only [List.map_cons, List.map_nil, if_neg hne', if_true, set_encU, List.set_set] at ownr3
      generalize World.setCell _ _ _ = wr3 at ownr3 ⊢
      clear lt row1 fr hrow hpr ownr2
      obtain ⟨-, lt, row1, fr⟩ := ownr3.at2
      have hrow : wr3.rowD p = encHs x := (rowD_congr (ownr3.below.block p hp)).trans row
      have hpr : p < wr3.heap.size := Nat.lt_of_lt_of_le hp ownr3.below.size
      rw [rounds_succ]; go_wp2_with fail
      have ownr4 := ownr3.setCell (w.heap.size + 1) t (.int .u32 ((v3 : Nat) : Int)) (by omega)
      simp only [List.map_cons, List.map_nil, if_neg hne', if_true, set_encU, List.set_set] at ownr4
      generalize World.setCell _ _ _ = wr4 at ownr4 ⊢
      clear lt row1 fr hrow hpr ownr3
      obtain ⟨-, lt, row1, fr⟩ := ownr4.at2
      have hrow : wr4.rowD p = encHs x := (rowD_congr (ownr4.below.block p hp)).trans row
      have hpr : p < wr4.heap.size := Nat.lt_of_lt_of_le hp ownr4.below.size
      rw [rounds_succ]; go_wp2_with fail
      refine ⟨⟨t + 1, by omega, by go_num, ?_⟩, by simp [intOf]; omega⟩
      rw [hw, show 64 - (t + 1) = 63 - t by omega]
      have hs := set_pad (words x.b t) (63 - t) v3
      rw [len_words, show 63 - t + 1 = 64 - t by omega, hL] at hs
      rw [← hs]
      exact ownr4
end Go.Proofs.YtpoaakdljpdkfaaDoor

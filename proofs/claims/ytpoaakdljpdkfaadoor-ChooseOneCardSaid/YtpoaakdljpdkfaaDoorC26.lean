/- SLICES OF STRUCTS (blocks, states): how one is laid, how it is read; THE WALK OF grow.Chain. -/
import Derived.Test.YtpoaakdljpdkfaaDoorC25
import Derived.Test.YtpoaakdljpdkfaaDoorSpec
set_option linter.unusedSimpArgs false
set_option linter.unusedVariables false
namespace Go
open Go.RowKit
/-- a slice that is laid out of whole structs: kept shut -/
def buildSliceK (T : TypeId) (n : Nat) (parts : Array (Nat × Value)) : Sem Next := do pure (.value (← Instr.buildSlice T n parts))
theorem layAll_row (size : Nat) : ∀ (vs : List (Array Value)) (k : Nat) (c : Array Value), (∀ v ∈ vs, v.size = size) → (k + vs.length) * size ≤ c.size →
    layAll (fun i => some (i * size, size)) c ((vs.zipIdx k).map fun (v, i) => (i, Value.agg v)) = (c.toList.take (k * size) ++ vs.flatMap (·.toList) ++ c.toList.drop ((k + vs.length) * size)).toArray
  | [], k, c, _, h => by simp [layAll]
  | v :: vs, k, c, hv, h => by
    have hvs := hv v (by simp)
    simp only [List.length_cons] at h
    have hk : (k + (vs.length + 1)) * size = k * size + size + vs.length * size := by rw [Nat.add_mul, Nat.add_mul]; omega
    simp only [List.zipIdx_cons, List.map_cons, layAll, Option.getD_some, Value.cells]
    rw [layAll_row size vs (k + 1) _ (fun u hu => hv u (by simp [hu])) (by rw [size_spliceL]; rw [hk] at h; rw [show (k + 1 + vs.length) * size = k * size + size + vs.length * size by rw [Nat.add_mul, Nat.add_mul]; omega]; exact h)]
    rw [spliceL_eq _ _ _ (by rw [Array.length_toList, hvs]; rw [hk] at h; omega)]
    rw [hk] at h
    apply congrArg
    have e1 : (k + 1) * size = k * size + size := by rw [Nat.add_mul]; omega
    have e2 : (k + 1 + vs.length) * size = k * size + size + vs.length * size := by rw [Nat.add_mul, Nat.add_mul]; omega
    rw [e1, e2, List.length_cons, hk]
    have hvl : v.toList.length = size := by rw [Array.length_toList, hvs]
    have hA : (c.toList.take (k * size) ++ v.toList).length = k * size + size := by rw [List.length_append, List.length_take, Array.length_toList, hvl]; omega
    show (c.toList.take (k * size) ++ v.toList ++ c.toList.drop (k * size + v.toList.length)).take (k * size + size) ++ vs.flatMap (·.toList) ++ (c.toList.take (k * size) ++ v.toList ++ c.toList.drop (k * size + v.toList.length)).drop (k * size + size + vs.length * size) = _
    rw [List.take_left' hA, ← List.drop_drop, List.drop_left' hA, List.drop_drop, hvl, List.flatMap_cons]
    simp only [List.append_assoc]
theorem fitsAll_row (size : Nat) : ∀ (vs : List (Array Value)) (k m : Nat), (∀ v ∈ vs, v.size = size) → (k + vs.length) * size ≤ m → fitsAll (fun i => some (i * size, size)) m ((vs.zipIdx k).map fun (v, i) => (i, Value.agg v))
  | [], _, _, _, _ => trivial
  | v :: vs, k, m, hv, h => by
    simp only [List.length_cons] at h
    have hk : (k + (vs.length + 1)) * size = k * size + size + vs.length * size := by rw [Nat.add_mul, Nat.add_mul]; omega
    refine ⟨⟨k * size, size, rfl, hv v (by simp), by rw [hk] at h; omega⟩, ?_⟩
    exact fitsAll_row size vs (k + 1) m (fun u hu => hv u (by simp [hu])) (by rw [show (k + 1 + vs.length) * size = k * size + size + vs.length * size by rw [Nat.add_mul, Nat.add_mul]; omega]; rw [hk] at h; exact h)
theorem run_buildSliceK {P : Program} (T e : TypeId) (size : Nat) (z : Array Value) (hu : P.underlying T = some (.slice e)) (hz : ∀ w, (zeroValue e).run P w = .ok (.agg z) w) (hs : ∀ w, (Go.sizeOf e).run P w = .ok size w) (h0 : 0 < size)
    (vs : List (Array Value)) (hv : ∀ v ∈ vs, v.size = size) (hle : vs.length * size ≤ 16777216) (hn : vs.length * size ≠ 0) (w : World) :
    (buildSliceK T vs.length ((vs.zipIdx).map fun (v, i) => (i, Value.agg v)).toArray).run P w = .ok (.value (.slice (some ⟨w.heap.size, 0, none⟩) vs.length vs.length)) (w.alloc (.cells (vs.flatMap (·.toList)).toArray e)) := by
  unfold buildSliceK Instr.buildSlice
  have hle' : ¬ vs.length * size > 2 ^ 24 := by omega
  simp only [Sem.run_bind, Sem.run_pure, Result.andThen_ok, run_underlying hu, hs, hle', if_false, hn, hz]
  rw [fill_eq _ _ _ (by simpa using fitsAll_row size vs 0 (vs.length * size) hv (by rw [Nat.zero_add]; exact Nat.le_refl _))]
  have hl := layAll_row size vs 0 (Array.map (fun i => (Value.agg z).cells[i % (Value.agg z).cells.size]!) (Array.range (vs.length * size))) hv (by simp)
  simp only [Nat.zero_mul, List.take_zero, List.nil_append, Nat.zero_add] at hl
  rw [hl]
  rw [List.drop_eq_nil_of_le (by simp), List.append_nil]
  simp only [Sem.run_bind, Sem.run_pure, Result.andThen_ok]
  rfl
end Go
namespace Go.Proofs.YtpoaakdljpdkfaaDoor
open Go.RowKit Go.Alm
def encBks (l : List Bk) : Array Value := (l.flatMap fun b => (encBk b).toList).toArray
def encSts (l : List St) : Array Value := (l.flatMap fun b => (encSt b).toList).toArray
@[go_sem ↓] theorem exLsBk (ρ : Operand → Value) (dst : Option Tmp) (n : Nat) (ps : Array (Nat × Operand)) (ty : TypeId) (pos : String) (after : Array Edge) (guard : Option (Nat × Bool)) : execOp ρ { dst, op := .buildSlice 45 n ps, type := ty, pos, after, guard } = buildSliceK 45 n (ps.map fun (i, x) => (i, ρ x)) := rfl
theorem bsBk (l : List Bk) (hl : l.length ≤ 1000) (hn : l ≠ []) (w : World) : (buildSliceK 45 l.length ((l.map encBk).zipIdx.map fun (v, i) => (i, Value.agg v)).toArray).run Tryd.prog w = .ok (.value (.slice (some ⟨w.heap.size, 0, none⟩) l.length l.length)) (w.alloc (.cells (encBks l) 37)) := by
  have h0 : 0 < l.length := List.length_pos_iff.2 hn
  have := run_buildSliceK (P := Tryd.prog) 45 37 65 (encBk block0) (by kernel_rfl) zerBk sizBk (by omega) (l.map encBk) (fun v hv => by obtain ⟨b, _, rfl⟩ := List.mem_map.1 hv; exact size_encBk b) (by rw [List.length_map]; omega) (by rw [List.length_map]; omega) w
  rw [List.length_map] at this
  rw [this, List.flatMap_map]
  rfl
@[go_sem] theorem bsBk3 (a b c : Bk) (w : World) : (buildSliceK 45 3 #[(0, .agg (encBk a)), (1, .agg (encBk b)), (2, .agg (encBk c))]).run Tryd.prog w = .ok (.value (.slice (some ⟨w.heap.size, 0, none⟩) 3 3)) (w.alloc (.cells (encBks [a, b, c]) 37)) := bsBk [a, b, c] (by simp) (by simp) w
/-- where a slice of structs lies -/
def AtS (w : World) (ao : Option Addr) (n size : Nat) (cells : Array Value) : Prop := n = 0 ∨ ∃ q o, ao = some ⟨q, o, none⟩ ∧ q < w.heap.size ∧ (w.rowD q).extract o (o + n * size) = cells
theorem AtS.below {w w' : World} {ao : Option Addr} {n size : Nat} {cells : Array Value} (h : AtS w ao n size cells) (hb : Below w.heap.size w w') : AtS w' ao n size cells := by
  rcases h with h | ⟨q, o, h1, h2, h3⟩
  · exact .inl h
  · exact .inr ⟨q, o, h1, Nat.lt_of_lt_of_le h2 hb.size, by rw [rowD_congr (hb.block q h2)]; exact h3⟩
theorem flat_at {α : Type} (f : α → List Value) (size : Nat) (hf : ∀ a, (f a).length = size) : ∀ (l : List α) (k : Nat) (hk : k < l.length), ((l.flatMap f).drop (k * size)).take size = f (l[k])
  | a :: l, 0, _ => by simp [List.take_left' (hf a)]
  | a :: l, k + 1, hk => by
    have := flat_at f size hf l k (by simpa using hk)
    rw [List.flatMap_cons, show (k + 1) * size = size + k * size by rw [Nat.add_mul]; omega, ← List.drop_drop, List.drop_left' (hf a), this]
    rfl
theorem AtS.get {α : Type} {w : World} {q o n size : Nat} (h0 : 0 < size) (f : α → Array Value) (hf : ∀ a, (f a).size = size) (l : List α) (hn : n = l.length) (hc : (w.rowD q).extract o (o + n * size) = (l.flatMap fun b => (f b).toList).toArray) (k : Nat) (hk : k < l.length) :
    o + k * size + size ≤ (w.rowD q).size ∧ (w.rowD q).extract (o + k * size) (o + k * size + size) = f l[k] := by
  subst hn
  have hlen : (l.flatMap fun b => (f b).toList).length = l.length * size := by
    rw [List.length_flatMap]
    have : l.map (fun a => (f a).toList.length) = l.map (fun _ => size) := List.map_congr_left fun a _ => by rw [Array.length_toList, hf]
    rw [this]; simp only [List.map_const', List.sum_replicate_nat]
  have hs : min (o + l.length * size) (w.rowD q).size - o = l.length * size := by
    have := congrArg Array.size hc
    simp only [Array.size_extract, List.size_toArray] at this
    rw [hlen] at this
    exact this
  have hk1 : (k + 1) * size ≤ l.length * size := Nat.mul_le_mul_right _ hk
  have hk2 : (k + 1) * size = k * size + size := by rw [Nat.add_mul]; omega
  have hle : o + k * size + size ≤ (w.rowD q).size := by omega
  have hg := flat_at (fun b => (f b).toList) size (fun a => by rw [Array.length_toList, hf]) l k hk
  have hl := congrArg Array.toList hc
  simp only [Array.toList_extract, List.extract_eq_take_drop] at hl
  refine ⟨hle, Array.toList_inj.1 ?_⟩
  rw [← hg, ← hl]
  simp only [Array.toList_extract, List.extract_eq_take_drop]
  rw [List.drop_take, List.take_take, List.drop_drop]
  congr 1
  omega
end Go.Proofs.YtpoaakdljpdkfaaDoor

/- CELLS IN MEMORY: whole blocks read, written, made. -/
import Derived.WalkKit
import Derived.Deep.QuietTactic
import Derived.BigQuiet
import Derived.Laws.IdiomCopy
set_option linter.unusedSimpArgs false
namespace Go
open Go.RowKit

/-- what a block holds -/
def World.rowD (w : World) (g : Nat) : Array Value := match w.heap[g]? with | some (.cells c _ _) => c | _ => #[]

/-- values laid into cells one behind the other -/
def spliceL : Array Value → Nat → List Value → Array Value
  | c, _, [] => c
  | c, o, v :: vs => spliceL (c.setIfInBounds o v) (o + 1) vs

theorem size_spliceL : ∀ (vs : List Value) (c : Array Value) (o : Nat), (spliceL c o vs).size = c.size
  | [], _, _ => rfl
  | v :: vs, c, o => by rw [spliceL, size_spliceL vs]; simp

theorem get_spliceL : ∀ (vs : List Value) (c : Array Value) (o j : Nat), o + vs.length ≤ c.size →
    (spliceL c o vs)[j]? = if o ≤ j ∧ j < o + vs.length then vs[j - o]? else c[j]?
  | [], c, o, j, _ => by rw [spliceL, if_neg (by simp)]
  | v :: vs, c, o, j, h => by
    simp only [List.length_cons] at h
    rw [spliceL, get_spliceL vs _ _ _ (by simp; omega)]
    simp only [List.length_cons, Array.getElem?_setIfInBounds]
    by_cases h1 : o + 1 ≤ j ∧ j < o + 1 + vs.length
    · rw [if_pos h1, if_pos (by omega), show j - o = (j - (o + 1)) + 1 by omega]; rfl
    · rw [if_neg h1]
      by_cases h2 : o = j
      · subst h2; simp; omega
      · rw [if_neg h2, if_neg (by omega)]

theorem spliceL_eq (vs : List Value) (c : Array Value) (o : Nat) (h : o + vs.length ≤ c.size) :
    spliceL c o vs = (c.toList.take o ++ vs ++ c.toList.drop (o + vs.length)).toArray := by
  apply Array.ext_getElem?
  intro j
  rw [get_spliceL vs c o j h]
  simp only [List.getElem?_toArray, List.getElem?_append, List.length_append, List.length_take, List.length_drop, Array.length_toList, List.getElem?_take, List.getElem?_drop, Array.getElem?_toList]
  by_cases h1 : j < o
  · rw [if_neg (by omega), if_pos (by omega), if_pos (by omega), if_pos h1]
  · by_cases h2 : j < o + vs.length
    · rw [if_pos (by omega), if_pos (by omega), if_neg (by omega), show min o c.size = o by omega]
    · rw [if_neg (by omega), if_neg (by omega)]
      congr 1; omega

theorem spliceL_all (vs : List Value) (c : Array Value) (h : vs.length = c.size) : spliceL c 0 vs = vs.toArray := by
  rw [spliceL_eq vs c 0 (by omega)]
  simp [h]

section
variable {w : World}
theorem rowD_of_heap {g : Nat} {c : Array Value} {t : TypeId} {f : Nat × Nat} (h : w.heap[g]? = some (.cells c t f)) : w.rowD g = c := by simp [World.rowD, h]
theorem rowD_congr {w w' : World} {g : Nat} (h : w'.heap[g]? = w.heap[g]?) : w'.rowD g = w.rowD g := by simp [World.rowD, h]
theorem rowD_alloc_new (c : Array Value) (t : TypeId) (f : Nat × Nat) (n : Nat) (hn : n = w.heap.size) : (w.alloc (.cells c t f)).rowD n = c := by
  subst hn
  exact rowD_of_heap (heap_alloc_new w _)
theorem rowD_alloc_old (o : Obj) (n : Nat) (hn : n < w.heap.size) : (w.alloc o).rowD n = w.rowD n := rowD_congr (Below.heap_alloc w o n hn)
theorem rowD_drew (n : Nat) : w.drew.rowD n = w.rowD n := rfl
theorem rowD_drewN (n k : Nat) : (w.drewN k).rowD n = w.rowD n := rfl
theorem rowD_setCell_same (g i : Nat) (v : Value) : (w.setCell ⟨g, i, none⟩ v).rowD g = (w.rowD g).setIfInBounds i v := by
  unfold World.rowD World.setCell
  simp only [Array.getElem?_modify, if_true]
  cases hg : w.heap[g]? with
  | none => simp
  | some ob => cases ob <;> simp
theorem rowD_setCell_other (a : Addr) (g : Nat) (v : Value) (h : g ≠ a.block) : (w.setCell a v).rowD g = w.rowD g := rowD_congr (heap_setCell_other w a g v h)
theorem cell_rowD (g i : Nat) : w.cell? ⟨g, i, none⟩ = (w.rowD g)[i]? := by
  unfold World.cell? World.rowD
  cases h : w.heap[g]? with
  | none => simp
  | some o => cases o <;> simp
theorem lt_of_rowD {g : Nat} (h : 0 < (w.rowD g).size) : g < w.heap.size := by
  rcases Nat.lt_or_ge g w.heap.size with h' | h'
  · exact h'
  · unfold World.rowD at h; rw [Array.getElem?_eq_none h'] at h; simp at h

theorem rowD_setCells_same (g : Nat) : ∀ (vs : List Value) (o : Nat) (w : World), (w.setCells g o vs).rowD g = spliceL (w.rowD g) o vs
  | [], _, _ => rfl
  | v :: vs, o, w => by rw [World.setCells, rowD_setCells_same g vs, rowD_setCell_same]; rfl
theorem rowD_setCells_other (g k : Nat) (h : k ≠ g) : ∀ (vs : List Value) (o : Nat) (w : World), (w.setCells g o vs).rowD k = w.rowD k
  | [], _, _ => rfl
  | v :: vs, o, w => by rw [World.setCells, rowD_setCells_other g k h vs, rowD_setCell_other _ _ _ h]
theorem setCells_alloc (t : TypeId) (g : Nat) (hg : g = w.heap.size) : ∀ (vs : List Value) (o : Nat) (c : Array Value),
    (w.alloc (.cells c t)).setCells g o vs = w.alloc (.cells (spliceL c o vs) t)
  | [], _, _ => rfl
  | v :: vs, o, c => by
    rw [World.setCells, World.setCell_alloc_at _ _ _ _ _ hg, setCells_alloc t g hg vs]; rfl
theorem setCells_alloc_past (ob : Obj) (g : Nat) : ∀ (vs : List Value) (o : Nat) (w : World), g < w.heap.size →
    (w.alloc ob).setCells g o vs = (w.setCells g o vs).alloc ob
  | [], _, _, _ => rfl
  | v :: vs, o, w, hg => by
    rw [World.setCells, World.setCells, World.setCell_alloc_past _ _ _ _ hg, setCells_alloc_past ob g vs _ _ (by simpa using hg)]
theorem setCells_drew (g : Nat) : ∀ (vs : List Value) (o : Nat) (w : World), w.drew.setCells g o vs = (w.setCells g o vs).drew
  | [], _, _ => rfl
  | v :: vs, o, w => by rw [World.setCells, World.setCells, World.setCell_drew, setCells_drew g vs]
theorem size_setCells (g : Nat) : ∀ (vs : List Value) (o : Nat) (w : World), (w.setCells g o vs).heap.size = w.heap.size
  | [], _, _ => rfl
  | v :: vs, o, w => by rw [World.setCells, size_setCells g vs]; simp
theorem below_setCells {B : Nat} (g : Nat) (hg : B ≤ g) : ∀ (vs : List Value) (o : Nat) (a w : World), Below B a w → Below B a (w.setCells g o vs)
  | [], _, _, _, h => h
  | v :: vs, o, a, w, h => by rw [World.setCells]; exact below_setCells g hg vs _ _ _ (h.setCell (p := ⟨g, o, none⟩) hg v)
end

section
variable {P : Program}
theorem addr_mid (g o j : Nat) : (⟨g, o, none⟩ : Addr).add j = ⟨g, o + j, none⟩ := by unfold Addr.add; split <;> simp_all

theorem run_loadVar_rowD (ty : TypeId) (n : Nat) (hu : ∀ w, (isAgg ty).run P w = .ok true w) (hs : ∀ w, (Go.sizeOf ty).run P w = .ok n w)
    (w : World) (g o : Nat) (h : o + n ≤ (w.rowD g).size) :
    (loadVar ty ⟨g, o, none⟩).run P w = .ok (.agg ((w.rowD g).extract o (o + n))) w := by
  have hl : (loadCells ⟨g, o, none⟩ ((w.rowD g).extract o (o + n)).toList.length).run P w = .ok ((w.rowD g).extract o (o + n)).toList.toArray w :=
    run_loadCells_list (P := P) w ⟨g, o, none⟩ _ (fun j v hv => by
      rw [addr_mid, cell_rowD]
      simp only [Array.getElem?_toList, Array.getElem?_extract] at hv
      split at hv
      · exact hv
      · cases hv)
  have hlen : ((w.rowD g).extract o (o + n)).toList.length = n := by simp; omega
  rw [hlen] at hl
  simp only [loadVar, Sem.run_bind, Sem.run_pure, Result.andThen_ok, hu, hs, if_true, hl, Array.toArray_toList]

theorem run_loadAt_rowD (ty : TypeId) (n : Nat) (hu : ∀ w, (isAgg ty).run P w = .ok true w) (hs : ∀ w, (Go.sizeOf ty).run P w = .ok n w)
    (w : World) (g o : Nat) (h : o + n ≤ (w.rowD g).size) :
    (Instr.loadAt ty (.pointer (some ⟨g, o, none⟩))).run P w = .ok (.agg ((w.rowD g).extract o (o + n))) w := by
  simp only [Instr.loadAt, Instr.sureAddr, Sem.run_bind, Sem.run_pure, Result.andThen_ok, run_loadVar_rowD ty n hu hs w g o h]

theorem run_storeAt_rowD (ty : TypeId) (n : Nat) (hs : ∀ w, (Go.sizeOf ty).run P w = .ok n w)
    (w : World) (g o : Nat) (vs : Array Value) (hv : vs.size = n) (h1 : ∀ v ∈ vs.toList, v.oneCell' = true) (h : o + n ≤ (w.rowD g).size) (hf : ∀ i, w.frozen? ⟨g, i, none⟩ = false) :
    (Instr.storeAt ty (.pointer (some ⟨g, o, none⟩)) (.agg vs)).run P w = .ok () (w.setCells g o vs.toList) := by
  have := run_storeCells_cells (P := P) g o vs.toList 0 w (fun j hj => by
      have hj' : j < vs.size := by simpa using hj
      rw [cell_rowD, Array.getElem?_eq_getElem (by omega)]; rfl) (fun j hj => hf _) h1
  simp only [Nat.add_zero] at this
  simp only [Instr.storeAt, Instr.sureAddr, Sem.run_bind, Sem.run_pure, Result.andThen_ok, storeVar, Value.cells, hs, hv, ne_eq, not_true, if_false, this]
end

/-- what a call that only lays blocks leaves alone -/
theorem below_facts {B : Nat} {W w1 : World} (hb : Below B W w1) :
    (∀ b, b < B → w1.rowD b = W.rowD b) ∧ (∀ b o, b < B → w1.frozen? ⟨b, o, none⟩ = W.frozen? ⟨b, o, none⟩) :=
  ⟨fun b h => rowD_congr (hb.block b h), fun b o h => hb.frozen (p := ⟨b, o, none⟩) h⟩

/-- some world that a call which only lays blocks may leave -/
noncomputable def World.ext (w g : World) : World := open Classical in if Below w.heap.size w g then g else w
theorem World.ext_below (w g : World) : Below w.heap.size w (w.ext g) := by
  unfold World.ext
  split
  · assumption
  · exact Below.refl _ _
theorem World.ext_of {w w' : World} (h : Below w.heap.size w w') : ∃ g, w' = w.ext g := ⟨w', by unfold World.ext; rw [if_pos h]⟩
theorem World.rowD_ext (w g : World) (b : Nat) (h : b < w.heap.size) : (w.ext g).rowD b = w.rowD b := rowD_congr ((World.ext_below w g).block b h)
theorem World.cell_ext (w g : World) (b o : Nat) (h : b < w.heap.size) : (w.ext g).cell? ⟨b, o, none⟩ = w.cell? ⟨b, o, none⟩ := (World.ext_below w g).cell (p := ⟨b, o, none⟩) h
theorem World.frozen_ext (w g : World) (b o : Nat) (h : b < w.heap.size) : (w.ext g).frozen? ⟨b, o, none⟩ = w.frozen? ⟨b, o, none⟩ := (World.ext_below w g).frozen (p := ⟨b, o, none⟩) h

theorem Calls.ext_of {P : Program} {f : FuncId} {args : Array Value} {w g : World} {v : Value}
    (h : Calls P f args (w.ext g) fun e w' => e = .returned v ∧ Below (w.ext g).heap.size (w.ext g) w') : Calls P f args (w.ext g) fun e w'' => e = .returned v ∧ ∃ m, w'' = w.ext m :=
  h.mono fun _ _ ⟨he, hb⟩ => ⟨he, World.ext_of ((World.ext_below w g).trans (hb.mono (World.ext_below w g).size))⟩

theorem wp_region_ext {P : Program} {id : Nat} {Q : Exit → Act → World → Prop} {a : Act} {w : World} {l : List Oper} (hm : P.follows .mixedOrders = true) (hB : Region.lexB .any l.toArray = true)
    (h : wpQuiet P l.toArray (fun w' => ∃ g, w' = w.ext g) (fun a' => ∀ w', (∃ g, w' = w.ext g) → Q .normal a' w') l a) : (Code.region id l.toArray true).wp P Q a w :=
  wp_region_quiet (C := fun w' => ∃ g, w' = w.ext g) hm hB (World.ext_of ((Below.refl _ _).drew)) (by simpa using h)

/-- what a call knows of memory: all that was there is as it was; L: its own blocks, and what they hold -/
structure Owns (w W : World) (L : List (Nat × Array Value)) : Prop where
  below : Below w.heap.size w W
  blocks : ∀ p ∈ L, w.heap.size ≤ p.1 ∧ p.1 < W.heap.size ∧ W.rowD p.1 = p.2 ∧ ∀ i, W.frozen? ⟨p.1, i, none⟩ = false

section
variable {w W W' : World} {L : List (Nat × Array Value)}
theorem Owns.nil (w : World) : Owns w w [] := ⟨Below.refl _ _, fun p h => by cases h⟩
theorem Owns.alloc (h : Owns w W L) (c : Array Value) (t : TypeId) : Owns w (W.alloc (.cells c t)) (L ++ [(W.heap.size, c)]) := by
  refine ⟨h.below.alloc h.below.size _, fun p hp => ?_⟩
  rcases List.mem_append.1 hp with hp | hp
  · obtain ⟨h1, h2, h3, h4⟩ := h.blocks p hp
    exact ⟨h1, by simp; omega, by rw [rowD_alloc_old _ _ h2]; exact h3, fun i => by rw [World.frozen?_alloc_past _ _ _ h2]; exact h4 i⟩
  · simp only [List.mem_singleton] at hp
    subst hp
    exact ⟨h.below.size, by simp, rowD_alloc_new _ _ _ _ rfl, fun i => World.frozen?_alloc_at _ _ _ _ rfl⟩
theorem Owns.call (h : Owns w W L) (hb : Below W.heap.size W W') : Owns w W' L := by
  refine ⟨h.below.trans (hb.mono h.below.size), fun p hp => ?_⟩
  obtain ⟨h1, h2, h3, h4⟩ := h.blocks p hp
  exact ⟨h1, Nat.lt_of_lt_of_le h2 hb.size, by rw [rowD_congr (hb.block _ h2)]; exact h3, fun i => by rw [hb.frozen (p := ⟨p.1, i, none⟩) h2]; exact h4 i⟩
theorem Owns.drew (h : Owns w W L) : Owns w W.drew L := h.call ((Below.refl _ _).drew)
theorem Owns.drewN (h : Owns w W L) (n : Nat) : Owns w (W.drewN n) L := h.call ⟨rfl, rfl, rfl, Nat.le_refl _, fun _ _ => rfl⟩
theorem Owns.sub (h : Owns w W L) {M : List (Nat × Array Value)} (hs : ∀ p ∈ M, p ∈ L) : Owns w W M := ⟨h.below, fun p hp => h.blocks p (hs p hp)⟩
/-- a store into one of its own blocks -/
theorem Owns.setCell (h : Owns w W L) (g i : Nat) (v : Value) (hg : w.heap.size ≤ g) : Owns w (W.setCell ⟨g, i, none⟩ v) (L.map fun p => if p.1 = g then (p.1, p.2.setIfInBounds i v) else p) := by
  refine ⟨h.below.setCell (p := ⟨g, i, none⟩) hg v, fun p hp => ?_⟩
  obtain ⟨q, hq, rfl⟩ := List.mem_map.1 hp
  obtain ⟨h1, h2, h3, h4⟩ := h.blocks q hq
  by_cases e : q.1 = g
  · rw [if_pos e]
    exact ⟨h1, by simpa using h2, by rw [e, rowD_setCell_same, ← e, h3], fun j => by rw [World.frozen?_setCell]; exact h4 j⟩
  · rw [if_neg e]
    exact ⟨h1, by simpa using h2, by rw [rowD_setCell_other _ _ _ e]; exact h3, fun j => by rw [World.frozen?_setCell]; exact h4 j⟩
theorem Owns.setCells (h : Owns w W L) (g o : Nat) (vs : List Value) (hg : w.heap.size ≤ g) : Owns w (W.setCells g o vs) (L.map fun p => if p.1 = g then (p.1, spliceL p.2 o vs) else p) := by
  refine ⟨below_setCells g hg vs o _ _ h.below, fun p hp => ?_⟩
  obtain ⟨q, hq, rfl⟩ := List.mem_map.1 hp
  obtain ⟨h1, h2, h3, h4⟩ := h.blocks q hq
  have hf : ∀ (vs : List Value) (o : Nat) (W : World) (a : Addr), (W.setCells g o vs).frozen? a = W.frozen? a := fun vs o W a => World.frozen?_setCells g vs o W a
  by_cases e : q.1 = g
  · rw [if_pos e]
    exact ⟨h1, by rw [size_setCells]; exact h2, by rw [e, rowD_setCells_same, ← e, h3], fun j => by rw [hf]; exact h4 j⟩
  · rw [if_neg e]
    exact ⟨h1, by rw [size_setCells]; exact h2, by rw [rowD_setCells_other g _ e]; exact h3, fun j => by rw [hf]; exact h4 j⟩
theorem own_one (w : World) (c1 : Array Value) (t1 : TypeId) : Owns w (w.alloc (.cells c1 t1)) [(w.heap.size, c1)] := (Owns.nil w).alloc c1 t1
theorem own_two (w : World) (c1 c2 : Array Value) (t1 t2 : TypeId) : Owns w ((w.alloc (.cells c1 t1)).alloc (.cells c2 t2)) [(w.heap.size, c1), (w.heap.size + 1, c2)] := by
  have := (own_one w c1 t1).alloc c2 t2
  simpa using this
theorem own_three (w : World) (c1 c2 c3 : Array Value) (t1 t2 t3 : TypeId) : Owns w (((w.alloc (.cells c1 t1)).alloc (.cells c2 t2)).alloc (.cells c3 t3)) [(w.heap.size, c1), (w.heap.size + 1, c2), (w.heap.size + 2, c3)] := by
  have := (own_two w c1 c2 t1 t2).alloc c3 t3
  simpa using this
theorem own_four (w : World) (c1 c2 c3 c4 : Array Value) (t1 t2 t3 t4 : TypeId) : Owns w ((((w.alloc (.cells c1 t1)).alloc (.cells c2 t2)).alloc (.cells c3 t3)).alloc (.cells c4 t4)) [(w.heap.size, c1), (w.heap.size + 1, c2), (w.heap.size + 2, c3), (w.heap.size + 3, c4)] := by
  have := (own_three w c1 c2 c3 t1 t2 t3).alloc c4 t4
  simpa using this
theorem Owns.at1 {b c} (h : Owns w W ((b, c) :: L)) : w.heap.size ≤ b ∧ b < W.heap.size ∧ W.rowD b = c ∧ ∀ i, W.frozen? ⟨b, i, none⟩ = false := h.blocks (b, c) (by simp)
theorem Owns.at2 {b c p} (h : Owns w W (p :: (b, c) :: L)) : w.heap.size ≤ b ∧ b < W.heap.size ∧ W.rowD b = c ∧ ∀ i, W.frozen? ⟨b, i, none⟩ = false := h.blocks (b, c) (by simp)
theorem Owns.at3 {b c p q} (h : Owns w W (p :: q :: (b, c) :: L)) : w.heap.size ≤ b ∧ b < W.heap.size ∧ W.rowD b = c ∧ ∀ i, W.frozen? ⟨b, i, none⟩ = false := h.blocks (b, c) (by simp)
theorem Owns.at4 {b c p q r} (h : Owns w W (p :: q :: r :: (b, c) :: L)) : w.heap.size ≤ b ∧ b < W.heap.size ∧ W.rowD b = c ∧ ∀ i, W.frozen? ⟨b, i, none⟩ = false := h.blocks (b, c) (by simp)
end
end Go

/- CELLS IN MEMORY: whole blocks read, written, made. -/
import Derived.WalkKit
import Derived.Deep.QuietTactic
import Derived.BigQuiet
import Derived.Laws.IdiomCopy
import Derived.StillTail
set_option linter.unusedSimpArgs false
namespace Go
open Go.RowKit

/-- what a block holds -/
def World.rowD (w : World) (g : Nat) : Array Value := match w.heap[g]? with | some (.cells c _ _) => c | _ => #[]

/-- values laid into cells one behind the other -/
def spliceL : Array Value → Nat → List Value → Array Value
  | c, _, [] => c
  | c, o, v :: vs => spliceL (c.setIfInBounds o v) (o + 1) vs

theorem size_spliceL : ∀ (vs : List Value) (c : Array Value) (o : Nat), (spliceL c o vs).size = c.size
  | [], _, _ => rfl
  | v :: vs, c, o => by rw [spliceL, size_spliceL vs]; simp

theorem get_spliceL : ∀ (vs : List Value) (c : Array Value) (o j : Nat), o + vs.length ≤ c.size →
    (spliceL c o vs)[j]? = if o ≤ j ∧ j < o + vs.length then vs[j - o]? else c[j]?
  | [], c, o, j, _ => by rw [spliceL, if_neg (by simp)]
  | v :: vs, c, o, j, h => by
    simp only [List.length_cons] at h
    rw [spliceL, get_spliceL vs _ _ _ (by simp; omega)]
    simp only [List.length_cons, Array.getElem?_setIfInBounds]
    by_cases h1 : o + 1 ≤ j ∧ j < o + 1 + vs.length
    · rw [if_pos h1, if_pos (by omega), show j - o = (j - (o + 1)) + 1 by omega]; rfl
    · rw [if_neg h1]
      by_cases h2 : o = j
      · subst h2; simp; omega
      · rw [if_neg h2, if_neg (by omega)]

theorem spliceL_eq (vs : List Value) (c : Array Value) (o : Nat) (h : o + vs.length ≤ c.size) :
    spliceL c o vs = (c.toList.take o ++ vs ++ c.toList.drop (o + vs.length)).toArray := by
  apply Array.ext_getElem?
  intro j
  rw [get_spliceL vs c o j h]
  simp only [List.getElem?_toArray, List.getElem?_append, List.length_append, List.length_take, List.length_drop, Array.length_toList, List.getElem?_take, List.getElem?_drop, Array.getElem?_toList]
  by_cases h1 : j < o
  · rw [if_neg (by omega), if_pos (by omega), if_pos (by omega), if_pos h1]
  · by_cases h2 : j < o + vs.length
    · rw [if_pos (by omega), if_pos (by omega), if_neg (by omega), show min o c.size = o by omega]
    · rw [if_neg (by omega), if_neg (by omega)]
      congr 1; omega

theorem spliceL_all (vs : List Value) (c : Array Value) (h : vs.length = c.size) : spliceL c 0 vs = vs.toArray := by
  rw [spliceL_eq vs c 0 (by omega)]
  simp [h]

section
variable {w : World}
theorem rowD_of_heap {g : Nat} {c : Array Value} {t : TypeId} {f : Nat × Nat} (h : w.heap[g]? = some (.cells c t f)) : w.rowD g = c := by simp [World.rowD, h]
theorem rowD_congr {w w' : World} {g : Nat} (h : w'.heap[g]? = w.heap[g]?) : w'.rowD g = w.rowD g := by simp [World.rowD, h]
theorem rowD_alloc_new (c : Array Value) (t : TypeId) (f : Nat × Nat) (n : Nat) (hn : n = w.heap.size) : (w.alloc (.cells c t f)).rowD n = c := by
  subst hn
  exact rowD_of_heap (heap_alloc_new w _)
theorem rowD_alloc_old (o : Obj) (n : Nat) (hn : n < w.heap.size) : (w.alloc o).rowD n = w.rowD n := rowD_congr (Below.heap_alloc w o n hn)
theorem rowD_drew (n : Nat) : w.drew.rowD n = w.rowD n := rfl
theorem rowD_drewN (n k : Nat) : (w.drewN k).rowD n = w.rowD n := rfl
theorem rowD_setCell_same (g i : Nat) (v : Value) : (w.setCell ⟨g, i, none⟩ v).rowD g = (w.rowD g).setIfInBounds i v := by
  unfold World.rowD World.setCell
  simp only [Array.getElem?_modify, if_true]
  cases hg : w.heap[g]? with
  | none => simp
  | some ob => cases ob <;> simp
theorem rowD_setCell_other (a : Addr) (g : Nat) (v : Value) (h : g ≠ a.block) : (w.setCell a v).rowD g = w.rowD g := rowD_congr (heap_setCell_other w a g v h)
theorem cell_rowD (g i : Nat) : w.cell? ⟨g, i, none⟩ = (w.rowD g)[i]? := by
  unfold World.cell? World.rowD
  cases h : w.heap[g]? with
  | none => simp
  | some o => cases o <;> simp
theorem lt_of_rowD {g : Nat} (h : 0 < (w.rowD g).size) : g < w.heap.size := by
  rcases Nat.lt_or_ge g w.heap.size with h' | h'
  · exact h'
  · unfold World.rowD at h; rw [Array.getElem?_eq_none h'] at h; simp at h

theorem rowD_setCells_same (g : Nat) : ∀ (vs : List Value) (o : Nat) (w : World), (w.setCells g o vs).rowD g = spliceL (w.rowD g) o vs
  | [], _, _ => rfl
  | v :: vs, o, w => by rw [World.setCells, rowD_setCells_same g vs, rowD_setCell_same]; rfl
theorem rowD_setCells_other (g k : Nat) (h : k ≠ g) : ∀ (vs : List Value) (o : Nat) (w : World), (w.setCells g o vs).rowD k = w.rowD k
  | [], _, _ => rfl
  | v :: vs, o, w => by rw [World.setCells, rowD_setCells_other g k h vs, rowD_setCell_other _ _ _ h]
theorem setCells_alloc (t : TypeId) (g : Nat) (hg : g = w.heap.size) : ∀ (vs : List Value) (o : Nat) (c : Array Value),
    (w.alloc (.cells c t)).setCells g o vs = w.alloc (.cells (spliceL c o vs) t)
  | [], _, _ => rfl
  | v :: vs, o, c => by
    rw [World.setCells, World.setCell_alloc_at _ _ _ _ _ hg, setCells_alloc t g hg vs]; rfl
theorem setCells_alloc_past (ob : Obj) (g : Nat) : ∀ (vs : List Value) (o : Nat) (w : World), g < w.heap.size →
    (w.alloc ob).setCells g o vs = (w.setCells g o vs).alloc ob
  | [], _, _, _ => rfl
  | v :: vs, o, w, hg => by
    rw [World.setCells, World.setCells, World.setCell_alloc_past _ _ _ _ hg, setCells_alloc_past ob g vs _ _ (by simpa using hg)]
theorem setCells_drew (g : Nat) : ∀ (vs : List Value) (o : Nat) (w : World), w.drew.setCells g o vs = (w.setCells g o vs).drew
  | [], _, _ => rfl
  | v :: vs, o, w => by rw [World.setCells, World.setCells, World.setCell_drew, setCells_drew g vs]
theorem size_setCells (g : Nat) : ∀ (vs : List Value) (o : Nat) (w : World), (w.setCells g o vs).heap.size = w.heap.size
  | [], _, _ => rfl
  | v :: vs, o, w => by rw [World.setCells, size_setCells g vs]; simp
theorem below_setCells {B : Nat} (g : Nat) (hg : B ≤ g) : ∀ (vs : List Value) (o : Nat) (a w : World), Below B a w → Below B a (w.setCells g o vs)
  | [], _, _, _, h => h
  | v :: vs, o, a, w, h => by rw [World.setCells]; exact below_setCells g hg vs _ _ _ (h.setCell (p := ⟨g, o, none⟩) hg v)
end

section
variable {P : Program}
theorem addr_mid (g o j : Nat) : (⟨g, o, none⟩ : Addr).add j = ⟨g, o + j, none⟩ := by unfold Addr.add; split <;> simp_all

theorem run_loadVar_rowD (ty : TypeId) (n : Nat) (hu : ∀ w, (isAgg ty).run P w = .ok true w) (hs : ∀ w, (Go.sizeOf ty).run P w = .ok n w)
    (w : World) (g o : Nat) (h : o + n ≤ (w.rowD g).size) :
    (loadVar ty ⟨g, o, none⟩).run P w = .ok (.agg ((w.rowD g).extract o (o + n))) w := by
  have hl : (loadCells ⟨g, o, none⟩ ((w.rowD g).extract o (o + n)).toList.length).run P w = .ok ((w.rowD g).extract o (o + n)).toList.toArray w :=
    run_loadCells_list (P := P) w ⟨g, o, none⟩ _ (fun j v hv => by
      rw [addr_mid, cell_rowD]
      simp only [Array.getElem?_toList, Array.getElem?_extract] at hv
      split at hv
      · exact hv
      · cases hv)
  have hlen : ((w.rowD g).extract o (o + n)).toList.length = n := by simp; omega
  rw [hlen] at hl
  simp only [loadVar, Sem.run_bind, Sem.run_pure, Result.andThen_ok, hu, hs, if_true, hl, Array.toArray_toList]

theorem run_loadAt_rowD (ty : TypeId) (n : Nat) (hu : ∀ w, (isAgg ty).run P w = .ok true w) (hs : ∀ w, (Go.sizeOf ty).run P w = .ok n w)
    (w : World) (g o : Nat) (h : o + n ≤ (w.rowD g).size) :
    (Instr.loadAt ty (.pointer (some ⟨g, o, none⟩))).run P w = .ok (.agg ((w.rowD g).extract o (o + n))) w := by
  simp only [Instr.loadAt, Instr.sureAddr, Sem.run_bind, Sem.run_pure, Result.andThen_ok, run_loadVar_rowD ty n hu hs w g o h]

theorem run_storeAt_rowD (ty : TypeId) (n : Nat) (hs : ∀ w, (Go.sizeOf ty).run P w = .ok n w)
    (w : World) (g o : Nat) (vs : Array Value) (hv : vs.size = n) (h1 : ∀ v ∈ vs.toList, v.oneCell' = true) (h : o + n ≤ (w.rowD g).size) (hf : ∀ i, w.frozen? ⟨g, i, none⟩ = false) :
    (Instr.storeAt ty (.pointer (some ⟨g, o, none⟩)) (.agg vs)).run P w = .ok () (w.setCells g o vs.toList) := by
  have := run_storeCells_cells (P := P) g o vs.toList 0 w (fun j hj => by
      have hj' : j < vs.size := by simpa using hj
      rw [cell_rowD, Array.getElem?_eq_getElem (by omega)]; rfl) (fun j hj => hf _) h1
  simp only [Nat.add_zero] at this
  simp only [Instr.storeAt, Instr.sureAddr, Sem.run_bind, Sem.run_pure, Result.andThen_ok, storeVar, Value.cells, hs, hv, ne_eq, not_true, if_false, this]
end

/-- what a call that only lays blocks leaves alone -/
theorem below_facts {B : Nat} {W w1 : World} (hb : Below B W w1) :
    (∀ b, b < B → w1.rowD b = W.rowD b) ∧ (∀ b o, b < B → w1.frozen? ⟨b, o, none⟩ = W.frozen? ⟨b, o, none⟩) :=
  ⟨fun b h => rowD_congr (hb.block b h), fun b o h => hb.frozen (p := ⟨b, o, none⟩) h⟩

/-- some world that a call which only lays blocks may leave -/
noncomputable def World.ext (w g : World) : World := open Classical in if Below w.heap.size w g then g else w
theorem World.ext_below (w g : World) : Below w.heap.size w (w.ext g) := by
  unfold World.ext
  split
  · assumption
  · exact Below.refl _ _
theorem World.ext_of {w w' : World} (h : Below w.heap.size w w') : ∃ g, w' = w.ext g := ⟨w', by unfold World.ext; rw [if_pos h]⟩
theorem World.rowD_ext (w g : World) (b : Nat) (h : b < w.heap.size) : (w.ext g).rowD b = w.rowD b := rowD_congr ((World.ext_below w g).block b h)
theorem World.cell_ext (w g : World) (b o : Nat) (h : b < w.heap.size) : (w.ext g).cell? ⟨b, o, none⟩ = w.cell? ⟨b, o, none⟩ := (World.ext_below w g).cell (p := ⟨b, o, none⟩) h
theorem World.frozen_ext (w g : World) (b o : Nat) (h : b < w.heap.size) : (w.ext g).frozen? ⟨b, o, none⟩ = w.frozen? ⟨b, o, none⟩ := (World.ext_below w g).frozen (p := ⟨b, o, none⟩) h

theorem Calls.ext_of {P : Program} {f : FuncId} {args : Array Value} {w g : World} {v : Value}
    (h : Calls P f args (w.ext g) fun e w' => e = .returned v ∧ Below (w.ext g).heap.size (w.ext g) w') : Calls P f args (w.ext g) fun e w'' => e = .returned v ∧ ∃ m, w'' = w.ext m :=
  h.mono fun _ _ ⟨he, hb⟩ => ⟨he, World.ext_of ((World.ext_below w g).trans (hb.mono (World.ext_below w g).size))⟩

theorem wp_region_ext {P : Program} {id : Nat} {Q : Exit → Act → World → Prop} {a : Act} {w : World} {l : List Oper} (hm : P.follows .mixedOrders = true) (hB : Region.lexB .any l.toArray = true)
    (h : wpQuiet P l.toArray (fun w' => ∃ g, w' = w.ext g) (fun a' => ∀ w', (∃ g, w' = w.ext g) → Q .normal a' w') l a) : (Code.region id l.toArray true).wp P Q a w :=
  wp_region_quiet (C := fun w' => ∃ g, w' = w.ext g) hm hB (World.ext_of ((Below.refl _ _).drew)) (by simpa using h)

/-- what a call knows of memory: all that was there is as it was; L: its own blocks, and what they hold -/
structure Owns (w W : World) (L : List (Nat × Array Value)) : Prop where
  below : Below w.heap.size w W
  blocks : ∀ p ∈ L, w.heap.size ≤ p.1 ∧ p.1 < W.heap.size ∧ W.rowD p.1 = p.2 ∧ ∀ i, W.frozen? ⟨p.1, i, none⟩ = false

section
variable {w W W' : World} {L : List (Nat × Array Value)}
theorem Owns.nil (w : World) : Owns w w [] := ⟨Below.refl _ _, fun p h => by cases h⟩
theorem Owns.alloc (h : Owns w W L) (c : Array Value) (t : TypeId) : Owns w (W.alloc (.cells c t)) (L ++ [(W.heap.size, c)]) := by
  refine ⟨h.below.alloc h.below.size _, fun p hp => ?_⟩
  rcases List.mem_append.1 hp with hp | hp
  · obtain ⟨h1, h2, h3, h4⟩ := h.blocks p hp
    exact ⟨h1, by simp; omega, by rw [rowD_alloc_old _ _ h2]; exact h3, fun i => by rw [World.frozen?_alloc_past _ _ _ h2]; exact h4 i⟩
  · simp only [List.mem_singleton] at hp
    subst hp
    exact ⟨h.below.size, by simp, rowD_alloc_new _ _ _ _ rfl, fun i => World.frozen?_alloc_at _ _ _ _ rfl⟩
theorem Owns.call (h : Owns w W L) (hb : Below W.heap.size W W') : Owns w W' L := by
  refine ⟨h.below.trans (hb.mono h.below.size), fun p hp => ?_⟩
  obtain ⟨h1, h2, h3, h4⟩ := h.blocks p hp
  exact ⟨h1, Nat.lt_of_lt_of_le h2 hb.size, by rw [rowD_congr (hb.block _ h2)]; exact h3, fun i => by rw [hb.frozen (p := ⟨p.1, i, none⟩) h2]; exact h4 i⟩
theorem Owns.drew (h : Owns w W L) : Owns w W.drew L := h.call ((Below.refl _ _).drew)
theorem Owns.drewN (h : Owns w W L) (n : Nat) : Owns w (W.drewN n) L := h.call ⟨rfl, rfl, rfl, Nat.le_refl _, fun _ _ => rfl⟩
theorem Owns.sub (h : Owns w W L) {M : List (Nat × Array Value)} (hs : ∀ p ∈ M, p ∈ L) : Owns w W M := ⟨h.below, fun p hp => h.blocks p (hs p hp)⟩
/-- a store into one of its own blocks -/
theorem Owns.setCell (h : Owns w W L) (g i : Nat) (v : Value) (hg : w.heap.size ≤ g) : Owns w (W.setCell ⟨g, i, none⟩ v) (L.map fun p => if p.1 = g then (p.1, p.2.setIfInBounds i v) else p) := by
  refine ⟨h.below.setCell (p := ⟨g, i, none⟩) hg v, fun p hp => ?_⟩
  obtain ⟨q, hq, rfl⟩ := List.mem_map.1 hp
  obtain ⟨h1, h2, h3, h4⟩ := h.blocks q hq
  by_cases e : q.1 = g
  · rw [if_pos e]
    exact ⟨h1, by simpa using h2, by rw [e, rowD_setCell_same, ← e, h3], fun j => by rw [World.frozen?_setCell]; exact h4 j⟩
  · rw [if_neg e]
    exact ⟨h1, by simpa using h2, by rw [rowD_setCell_other _ _ _ e]; exact h3, fun j => by rw [World.frozen?_setCell]; exact h4 j⟩
theorem Owns.setCells (h : Owns w W L) (g o : Nat) (vs : List Value) (hg : w.heap.size ≤ g) : Owns w (W.setCells g o vs) (L.map fun p => if p.1 = g then (p.1, spliceL p.2 o vs) else p) := by
  refine ⟨below_setCells g hg vs o _ _ h.below, fun p hp => ?_⟩
  obtain ⟨q, hq, rfl⟩ := List.mem_map.1 hp
  obtain ⟨h1, h2, h3, h4⟩ := h.blocks q hq
  have hf : ∀ (vs : List Value) (o : Nat) (W : World) (a : Addr), (W.setCells g o vs).frozen? a = W.frozen? a := fun vs o W a => World.frozen?_setCells g vs o W a
  by_cases e : q.1 = g
  · rw [if_pos e]
    exact ⟨h1, by rw [size_setCells]; exact h2, by rw [e, rowD_setCells_same, ← e, h3], fun j => by rw [hf]; exact h4 j⟩
  · rw [if_neg e]
    exact ⟨h1, by rw [size_setCells]; exact h2, by rw [rowD_setCells_other g _ e]; exact h3, fun j => by rw [hf]; exact h4 j⟩
theorem own_one (w : World) (c1 : Array Value) (t1 : TypeId) : Owns w (w.alloc (.cells c1 t1)) [(w.heap.size, c1)] := (Owns.nil w).alloc c1 t1
theorem own_two (w : World) (c1 c2 : Array Value) (t1 t2 : TypeId) : Owns w ((w.alloc (.cells c1 t1)).alloc (.cells c2 t2)) [(w.heap.size, c1), (w.heap.size + 1, c2)] := by
  have := (own_one w c1 t1).alloc c2 t2
  simpa using this
theorem own_three (w : World) (c1 c2 c3 : Array Value) (t1 t2 t3 : TypeId) : Owns w (((w.alloc (.cells c1 t1)).alloc (.cells c2 t2)).alloc (.cells c3 t3)) [(w.heap.size, c1), (w.heap.size + 1, c2), (w.heap.size + 2, c3)] := by
  have := (own_two w c1 c2 t1 t2).alloc c3 t3
  simpa using this
theorem own_four (w : World) (c1 c2 c3 c4 : Array Value) (t1 t2 t3 t4 : TypeId) : Owns w ((((w.alloc (.cells c1 t1)).alloc (.cells c2 t2)).alloc (.cells c3 t3)).alloc (.cells c4 t4)) [(w.heap.size, c1), (w.heap.size + 1, c2), (w.heap.size + 2, c3), (w.heap.size + 3, c4)] := by
  have := (own_three w c1 c2 c3 t1 t2 t3).alloc c4 t4
  simpa using this
theorem Owns.at1 {b c} (h : Owns w W ((b, c) :: L)) : w.heap.size ≤ b ∧ b < W.heap.size ∧ W.rowD b = c ∧ ∀ i, W.frozen? ⟨b, i, none⟩ = false := h.blocks (b, c) (by simp)
theorem Owns.at2 {b c p} (h : Owns w W (p :: (b, c) :: L)) : w.heap.size ≤ b ∧ b < W.heap.size ∧ W.rowD b = c ∧ ∀ i, W.frozen? ⟨b, i, none⟩ = false := h.blocks (b, c) (by simp)
theorem Owns.at3 {b c p q} (h : Owns w W (p :: q :: (b, c) :: L)) : w.heap.size ≤ b ∧ b < W.heap.size ∧ W.rowD b = c ∧ ∀ i, W.frozen? ⟨b, i, none⟩ = false := h.blocks (b, c) (by simp)
theorem Owns.at4 {b c p q r} (h : Owns w W (p :: q :: r :: (b, c) :: L)) : w.heap.size ≤ b ∧ b < W.heap.size ∧ W.rowD b = c ∧ ∀ i, W.frozen? ⟨b, i, none⟩ = false := h.blocks (b, c) (by simp)
end
end Go

/- REGIONS THAT DRAW THEIR ORDER: the general steps. -/
set_option linter.unusedSimpArgs false
set_option linter.unusedVariables false
namespace Go
open Go.RowKit

section
variable {P : Program} {ops : Array Oper} {md : Region.Mode} {w0 : World} {B n : Nat}

/-- what an operation, carried out in w, has come to: v in the very world, or a call that hands v back and only lays blocks -/
def Oper.growUpon (P : Program) (w : World) (v : Value) : Result Next → Prop
  | .ok (.value u) w' => w' = w ∧ u = v
  | .ok .skip w' => w' = w ∧ v = undef
  | .ok (.enter f args) w' => w' = w ∧ Calls P f args w (fun e w'' => e = .returned v ∧ Below w.heap.size w w'')
  | _ => False
def Oper.growAt (P : Program) (o : Oper) (a : Act) (w : World) (v : Value) : Prop := Oper.growUpon P w v ((execOp a.eval o).run P w)
def Oper.grow (P : Program) (o : Oper) (a : Act) (w0 : World) (next : Act → Prop) : Prop := ∃ v, (∀ g, o.growAt P a (w0.ext g) v) ∧ next (a.put o.dst v)
def wpGrow (P : Program) (ops : Array Oper) (w0 : World) (Q : Act → Prop) : List Oper → Act → Prop
  | [], a => Q a
  | o :: rest, a => if Region.wanted o (yielded ops a.tmps) then o.grow P a w0 (wpGrow P ops w0 Q rest) else wpGrow P ops w0 Q rest (a.put o.dst undef)
theorem wpGrow_nil {Q : Act → Prop} {a : Act} (h : Q a) : wpGrow P ops w0 Q [] a := h
theorem wpGrow_step {Q : Act → Prop} {a : Act} {o : Oper} {rest : List Oper}
    (h : ∀ K : Act → Prop, (∀ a, wpGrow P ops w0 Q rest a → K a) → if Region.wanted o (yielded ops a.tmps) then o.grow P a w0 K else K (a.put o.dst undef)) : wpGrow P ops w0 Q (o :: rest) a :=
  h _ (fun _ h => h)

def rOp (P : Program) (ops : Array Oper) (w0 : World) (i : Nat) (K : Act → Prop) (a : Act) : Prop :=
  match ops[i]? with
  | none => K a
  | some o => if Region.wanted o (yielded ops a.tmps) then o.grow P a w0 K else K (a.put o.dst undef)
theorem rOp_mono {i : Nat} {a : Act} {K K' : Act → Prop} (h : ∀ a, K a → K' a) (hh : rOp P ops w0 i K a) : rOp P ops w0 i K' a := by
  unfold rOp at *
  split
  · exact h _ (by simpa [*] using hh)
  · rename_i o ho
    simp only [ho] at hh
    split
    · rename_i hw; simp only [hw, if_true] at hh; obtain ⟨v, h1, h2⟩ := hh; exact ⟨v, h1, h _ h2⟩
    · rename_i hw; simp only [hw] at hh; exact h _ hh
def YieldsG (P : Program) (ops : Array Oper) (w0 : World) (o : Oper) (v : Value) (a : Act) : Prop :=
  (Region.wanted o (yielded ops a.tmps) = true ∧ ∀ g, o.growAt P a (w0.ext g) v) ∨ (Region.wanted o (yielded ops a.tmps) = false ∧ v = undef)
theorem YieldsG.rOp {i : Nat} {o : Oper} {v : Value} {a : Act} (hi : ops[i]? = some o) (hy : YieldsG P ops w0 o v a) {K : Act → Prop} (h : K (a.put o.dst v)) : rOp P ops w0 i K a := by
  unfold Go.rOp
  simp only [hi]
  rcases hy with ⟨hw, hv⟩ | ⟨hw, rfl⟩
  · simp only [hw, if_true]; exact ⟨v, hv, h⟩
  · simp only [hw, Bool.false_eq_true, if_false]; exact h
theorem YieldsG.of_same {o : Oper} {v : Value} {a a' : Act} (hy : YieldsG P ops w0 o v a) (he : execOp a'.eval o = execOp a.eval o)
    (hw : Region.wanted o (yielded ops a'.tmps) = Region.wanted o (yielded ops a.tmps)) : YieldsG P ops w0 o v a' := by
  unfold YieldsG Oper.growAt at *
  rw [he, hw]
  exact hy
theorem yieldsG_of_rOp {i : Nat} {o : Oper} {a : Act} {K : Act → Prop} (hi : ops[i]? = some o) (h : rOp P ops w0 i K a) : ∃ v, YieldsG P ops w0 o v a ∧ K (a.put o.dst v) := by
  unfold rOp at h
  simp only [hi] at h
  by_cases hw : Region.wanted o (yielded ops a.tmps) = true
  · simp only [hw, if_true] at h
    obtain ⟨v, h1, h2⟩ := h
    exact ⟨v, .inl ⟨hw, h1⟩, h2⟩
  · simp only [hw] at h
    exact ⟨undef, .inr ⟨by simpa using hw, rfl⟩, h⟩
theorem rOp_put {j : Nat} {oi oj : Oper} {v : Value} (hj : ops[j]? = some oj) (hap : oi.apart ops oj = true)
    (hsi : ∀ cs b, oi.op ≠ .select cs b) (hsj : ∀ cs b, oj.op ≠ .select cs b) {K : Act → Prop} {a : Act}
    (hy : YieldsG P ops w0 oi v a) (h : rOp P ops w0 j K (a.put oi.dst v)) :
    rOp P ops w0 j (fun a' => YieldsG P ops w0 oi v a' ∧ K (a'.put oi.dst v)) a := by
  obtain ⟨h1, h2, h3⟩ := Oper.apart_spec hap
  have keep : ∀ (a : Act), YieldsG P ops w0 oi v a → ∀ u, YieldsG P ops w0 oi v (a.put oj.dst u) := fun a hy u =>
    hy.of_same (execOp_put oi hsi a oj.dst u h3) (wanted_put oi a oj.dst u h3)
  unfold rOp at *
  simp only [hj] at *
  rw [wanted_put oj a oi.dst v h1] at h
  split
  · rename_i hw
    simp only [hw, if_true] at h
    obtain ⟨u, hu, hn⟩ := h
    refine ⟨u, fun g => ?_, keep a hy u, by rw [← Act.put_comm a v u h2]; exact hn⟩
    have := hu g
    unfold Oper.growAt at *
    rwa [execOp_put oj hsj a oi.dst v h1] at this
  · rename_i hw
    simp only [hw] at h
    exact ⟨keep a hy _, by rw [← Act.put_comm a v undef h2]; exact h⟩

/-- operation i comes up: number n makes a variable, wherever; each other one is quiet -/
def gOp (P : Program) (ops : Array Oper) (w0 : World) (B n i : Nat) (K : Option Nat → Act → Prop) (po : Option Nat) (a : Act) : Prop :=
  if i = n then ∀ p, B ≤ p → K (some p) (a.put ((ops[i]?).bind (·.dst)) (.pointer (some ⟨p, 0, none⟩))) else rOp P ops w0 i (K po) a

def wpAnyG (P : Program) (md : Region.Mode) (ops : Array Oper) (w0 : World) (B n : Nat) (L : Array Bool → Option Nat → Act → Prop) : Nat → Array Bool → Option Nat → Act → Prop
  | 0, listed, po, a => L listed po a
  | f + 1, listed, po, a =>
    Region.ready md ops listed ≠ [] ∧ ∀ i ∈ Region.ready md ops listed, i < n + 1 ∧ gOp P ops w0 B n i (wpAnyG P md ops w0 B n L f (listed.setIfInBounds i true)) po a

theorem gOp_mono {i : Nat} {a : Act} {po : Option Nat} {K K' : Option Nat → Act → Prop} (h : ∀ po a, K po a → K' po a) (hh : gOp P ops w0 B n i K po a) : gOp P ops w0 B n i K' po a := by
  unfold gOp at *
  split at hh
  · rename_i e; rw [if_pos e]; exact fun p hp => h _ _ (hh p hp)
  · rename_i e; rw [if_neg e]; exact rOp_mono (fun a => h _ a) hh

theorem gOp_put {j : Nat} {oi oj : Oper} {v : Value} {po : Option Nat} (hj : ops[j]? = some oj) (hap : oi.apart ops oj = true)
    (hsi : ∀ cs b, oi.op ≠ .select cs b) (hsj : ∀ cs b, oj.op ≠ .select cs b) {K : Option Nat → Act → Prop} {a : Act}
    (hy : YieldsG P ops w0 oi v a) (h : gOp P ops w0 B n j K po (a.put oi.dst v)) :
    gOp P ops w0 B n j (fun po' a' => YieldsG P ops w0 oi v a' ∧ K po' (a'.put oi.dst v)) po a := by
  unfold gOp at *
  split
  · rename_i e
    rw [if_pos e] at h
    obtain ⟨h1, h2, h3⟩ := Oper.apart_spec hap
    have hd : (ops[j]?).bind (·.dst) = oj.dst := by rw [hj]; rfl
    rw [hd] at h ⊢
    intro p hp
    refine ⟨hy.of_same (execOp_put oi hsi a oj.dst _ h3) (wanted_put oi a oj.dst _ h3), ?_⟩
    rw [← Act.put_comm a v _ h2]
    exact h p hp
  · rename_i e
    rw [if_neg e] at h
    exact rOp_put hj hap hsi hsj hy h

theorem wpAnyG_first {i : Nat} {oi : Oper} {v : Value} {L : Array Bool → Option Nat → Act → Prop} (hi : ops[i]? = some oi) (hsel : ∀ (j : Nat) (o : Oper) cs b, ops[j]? = some o → o.op ≠ .select cs b)
    (hs : Region.sinkB md ops (n + 1) = true) (hc : Region.chainB md ops (n + 1) = true) (hn : n + 1 < ops.size) (hin : i < n)
    (hdone : ∀ listed po a, L listed po a → ∀ j ∈ Region.ready md ops listed, n + 1 ≤ j) :
    ∀ (f : Nat) (listed : Array Bool) (po : Option Nat) (a : Act), HeadInv md ops (n + 1) listed →
      (∀ j oj, ops[j]? = some oj → j ≠ i → listed.getD j true = false → (∀ e ∈ oj.after, Region.binds md e = true → e.on ≠ i) → oi.apart ops oj = true) →
      i ∈ Region.ready md ops listed → YieldsG P ops w0 oi v a →
      wpAnyG P md ops w0 B n L f (listed.setIfInBounds i true) po (a.put oi.dst v) → wpAnyG P md ops w0 B n L (f + 1) listed po a := by
  intro f
  have hstep : ∀ {K : Option Nat → Act → Prop} {po : Option Nat} {a : Act}, YieldsG P ops w0 oi v a → K po (a.put oi.dst v) → gOp P ops w0 B n i K po a := by
    intro K po a hy h
    unfold gOp
    rw [if_neg (by omega)]
    exact hy.rOp hi h
  induction f with
  | zero =>
    intro listed po a inv _ hr hy H
    have hun := (mem_ready.1 hr).1
    refine ⟨fun h => (by rw [h] at hr; cases hr), fun j hj => ?_⟩
    have hjn : j < n + 1 := by
      rcases Nat.lt_or_ge j (n + 1) with h | h
      · exact h
      · exact absurd hj (tail_waits hs hc hn inv _ i rfl (by omega) hun j h)
    refine ⟨hjn, ?_⟩
    by_cases hji : j = i
    · subst hji; exact hstep hy H
    · have := hdone _ _ _ H j (ready_mono hj hji)
      omega
  | succ f ih =>
    intro listed po a inv hfree hr hy H
    have hun := (mem_ready.1 hr).1
    refine ⟨fun h => (by rw [h] at hr; cases hr), fun j hj => ?_⟩
    have hjn : j < n + 1 := by
      rcases Nat.lt_or_ge j (n + 1) with h | h
      · exact h
      · exact absurd hj (tail_waits hs hc hn inv _ i rfl (by omega) hun j h)
    refine ⟨hjn, ?_⟩
    by_cases hji : j = i
    · subst hji; exact hstep hy H
    · have h1 := (H.2 j (ready_mono hj hji)).2
      obtain ⟨hjun, oj, hoj, hall⟩ := mem_ready.1 hj
      have hnot : ∀ e ∈ oj.after, Region.binds md e = true → e.on ≠ i := fun e he hb heq => by
        have h1 := hall e he hb
        rw [heq, getD_both hun] at h1
        cases h1
      have h2 := gOp_put hoj (hfree j oj hoj hji hjun hnot) (fun cs b => hsel i oi cs b hi) (fun cs b => hsel j oj cs b hoj) hy h1
      have hfree' : ∀ k ok, ops[k]? = some ok → k ≠ i → (listed.setIfInBounds j true).getD k true = false →
          (∀ e ∈ ok.after, Region.binds md e = true → e.on ≠ i) → oi.apart ops ok = true := fun k ok hk hki hun hno => by
        refine hfree k ok hk hki ?_ hno
        by_cases hjk : j = k
        · subst hjk; exact hjun
        · rw [getD_set_ne true hjk] at hun; exact hun
      refine gOp_mono (fun po' a' h3 => ih (listed.setIfInBounds j true) po' a' (inv.set hj hjn) hfree' (ready_mono hr (Ne.symm hji)) h3.1 ?_) h2
      rw [Array.setIfInBounds_comm _ _ hji]
      exact h3.2

theorem wpAnyG_lex {g : Nat} {Lq : Act → Prop} (hsel : Region.noSelect ops = true) (hs : Region.sinkB md ops (n + 1) = true) (hc : Region.chainB md ops (n + 1) = true) (hn : n + 1 < ops.size) :
    ∀ (l : List Oper) (k : Nat) (listed : Array Bool) (a : Act), (∀ j, j < l.length → l[j]? = ops[k + j]?) → k + l.length = n → HeadInv md ops (n + 1) listed →
    Region.lexHead md ops g (l.length + 1) k listed = true → wpGrow P ops w0 Lq l a →
    wpAnyG P md ops w0 B n (fun listed' po' a' => Region.seqB md ops g (n + 1) listed' = true ∧ ∃ (p : Nat) (a0 : Act), po' = some p ∧ B ≤ p ∧ Lq a0 ∧ a' = a0.put ((ops[n]?).bind (·.dst)) (.pointer (some ⟨p, 0, none⟩))) (l.length + 1) listed none a
  | [], k, listed, a, _, hk, inv, hB, h => by
    have : k = n := by simpa using hk
    subst this
    simp only [List.length_nil, Region.lexHead, Bool.and_eq_true] at hB
    obtain ⟨⟨hr, hf⟩, hB'⟩ := hB
    have hr' : k ∈ Region.ready md ops listed := by simpa using hr
    have hun := (mem_ready.1 hr').1
    refine ⟨fun h0 => (by rw [h0] at hr'; cases hr'), fun i hi => ?_⟩
    have hik : i < k + 1 := by
      rcases Nat.lt_or_ge i (k + 1) with h1 | h1
      · exact h1
      · exact absurd hi (tail_waits hs hc hn inv _ k rfl (by omega) hun i h1)
    by_cases e : i = k
    · subst e
      refine ⟨hik, ?_⟩
      unfold gOp
      rw [if_pos rfl]
      exact fun p hp => ⟨hB', p, a, rfl, hp, h, rfl⟩
    · exfalso
      have := seqB_ready hB' i (ready_mono hi e)
      omega
  | o :: l, k, listed, a, hl, hk, inv, hB, h => by
    have h0 : ops[k]? = some o := by simpa using (hl 0 (by simp)).symm
    simp only [List.length_cons] at hB
    unfold Region.lexHead at hB
    simp only [Bool.and_eq_true] at hB
    obtain ⟨⟨hr, hf⟩, hB'⟩ := hB
    have hkn : k < n := by simp only [List.length_cons] at hk; omega
    have hr' : k ∈ Region.ready md ops listed := by simpa using hr
    have hst : rOp P ops w0 k (wpGrow P ops w0 Lq l) a := by unfold rOp; simp only [h0]; exact h
    obtain ⟨v, hy, hK⟩ := yieldsG_of_rOp h0 hst
    exact wpAnyG_first h0 (Region.noSelect_spec hsel) hs hc hn hkn (fun listed' po' a' hL => seqB_ready hL.1) (l.length + 1) listed none a inv (Region.free_spec h0 hf) hr' hy
      (wpAnyG_lex hsel hs hc hn l (k + 1) _ _ (fun j hj => by have := hl (j + 1) (by simp; omega); simpa [Nat.add_assoc, Nat.add_comm 1 j] using this) (by simp only [List.length_cons] at hk; omega) (inv.set hr' (by omega)) hB' hK)
end

/-- A REGION THAT DRAWS: n quiet operations (calls may lay blocks), one new variable, and what is done behind them all. -/
theorem wp_region_ext_alloc {P : Program} {id : Nat} {Q : Exit → Act → World → Prop} {a : Act} {w : World} {l : List Oper} (n : Nat) (T : TypeId) (z : Value) (hm : P.follows .mixedOrders = true)
    (hB : Region.lexTailB .any l.toArray (n + 1) = true) (hop : (l[n]?).map (fun o => (o.op matches .alloc _, o.guard.isNone)) = some (true, true)) (hT : (l[n]?).map (fun o => o.op) = some (.alloc T))
    (hz : ∀ W, (zeroValue T).run P W = .ok z W)
    (h : wpGrow P l.toArray w (fun a' => ∀ p W, w.heap.size ≤ p → Below w.heap.size w W → W.heap[p]? = some (.cells z.cells T (0, 0)) →
      wpList P l.toArray Q (l.drop (n + 1)) (a'.put ((l[n]?).bind (·.dst)) (.pointer (some ⟨p, 0, none⟩))) W) (l.take n) a) : (Code.region id l.toArray true).wp P Q a w := by
  simp only [Region.lexTailB, Bool.and_eq_true, decide_eq_true_eq] at hB
  obtain ⟨⟨⟨⟨hsel, hn⟩, hs⟩, hc⟩, hlex⟩ := hB
  have hn' : n + 1 < l.length := by simpa using hn
  have htl : (l.take n).length = n := by simp; omega
  have hdl : (l.drop (n + 1)).length = l.toArray.size - (n + 1) := by simp
  have inv0 : HeadInv .any l.toArray (n + 1) (Array.replicate l.toArray.size false) :=
    ⟨by simp, fun j oj _ hl => (by rw [getD_replicate_false] at hl; cases hl), fun t _ ht => getD_in (by simpa using ht) (getD_replicate_false _ _)⟩
  obtain ⟨on, hon⟩ : ∃ o, l[n]? = some o := ⟨_, List.getElem?_eq_getElem (by omega)⟩
  have hon' : l.toArray[n]? = some on := by simpa using hon
  rw [hon] at hop hT
  simp only [Option.map_some, Option.some.injEq, Prod.mk.injEq] at hop hT
  have hg : on.guard = none := by simpa using hop.2
  have H := wpAnyG_lex (P := P) (B := w.heap.size) (w0 := w) (md := .any) (g := l.toArray.size - (n + 1)) hsel hs hc hn (l.take n) 0 _ a (fun j hj => by
    have hj' : j < n := by rw [htl] at hj; exact hj
    simp [hj']) (by simpa using htl) inv0 (by rw [htl]; exact hlex) h
  rw [htl] at H
  refine wp_region_any hm ?_
  -- every order of the head, world by world
  have sound : ∀ (f : Nat) (listed : Array Bool) (po : Option Nat) (a' : Act) (W : World), Below w.heap.size w W → (∀ p, po = some p → w.heap.size ≤ p ∧ W.heap[p]? = some (.cells z.cells T (0, 0))) →
      wpAnyG P .any l.toArray w w.heap.size n (fun listed' po' a' => Region.seqB .any l.toArray (l.toArray.size - (n + 1)) (n + 1) listed' = true ∧ ∃ (p : Nat) (a0 : Act), po' = some p ∧ w.heap.size ≤ p ∧
        (∀ p W, w.heap.size ≤ p → Below w.heap.size w W → W.heap[p]? = some (.cells z.cells T (0, 0)) → wpList P l.toArray Q (l.drop (n + 1)) (a0.put ((l[n]?).bind (·.dst)) (.pointer (some ⟨p, 0, none⟩))) W) ∧ a' = a0.put ((l.toArray[n]?).bind (·.dst)) (.pointer (some ⟨p, 0, none⟩))) f listed po a' →
      wpAny P .any l.toArray Q (f + (l.toArray.size - (n + 1))) listed a' W := by
    intro f
    induction f with
    | zero =>
      intro listed po a' W hb hp hL
      obtain ⟨hseq, p, a0, rfl, hpB, hrun, rfl⟩ := hL
      rw [Nat.zero_add]
      have := wpAny_of_seq (P := P) (md := .any) (Q' := Q) (l.drop (n + 1)) (n + 1) listed _ W (fun j => by simp [List.getElem?_drop]) (by rw [hdl]; exact hseq) (hrun p W hpB hb (hp p rfl).2)
      rw [hdl] at this
      simpa using this
    | succ f ih =>
      intro listed po a' W hb hp hL
      rw [show f + 1 + (l.toArray.size - (n + 1)) = (f + (l.toArray.size - (n + 1))) + 1 by omega]
      refine ⟨fun h0 => absurd h0 hL.1, fun i hi => ?_⟩
      have h1 := (hL.2 i hi).2
      unfold gOp at h1
      by_cases e : i = n
      · subst e
        rw [if_pos rfl] at h1
        unfold wpOp
        simp only [hon']
        rw [if_pos (by simp [Region.wanted, hg])]
        left
        unfold Oper.wp execOp
        simp only [hT, Instr.alloc, hz, Sem.run_bind, Sem.run_pure, Result.andThen_ok]
        simp only [newVar, newRow, run_newObj, Sem.run_bind, Sem.run_pure, Result.andThen_ok, Oper.upon, World.alloc_eq]
        have h2 := h1 W.heap.size hb.size
        have hd : (l.toArray[i]?).bind (·.dst) = on.dst := by rw [hon']; rfl
        have h2' := congrArg (fun d => a'.put d (.pointer (some ⟨W.heap.size, 0, none⟩))) hd
        rw [h2'] at h2
        refine ih _ (some W.heap.size) _ _ (hb.alloc hb.size _) (fun p hp' => ?_) h2
        cases hp'
        exact ⟨hb.size, heap_alloc_new W _⟩
      · rw [if_neg e] at h1
        unfold rOp at h1
        unfold wpOp
        cases ho : l.toArray[i]? with
        | none => simp only [ho] at h1 ⊢; exact ih _ po _ _ hb hp h1
        | some o =>
          simp only [ho] at h1 ⊢
          split
          · rename_i hw
            rw [if_pos hw] at h1
            left
            obtain ⟨v, h3, h4⟩ := h1
            obtain ⟨g, hg'⟩ := World.ext_of hb
            have h5 := h3 g
            rw [← hg'] at h5
            unfold Oper.growAt at h5
            unfold Oper.wp
            generalize (execOp a'.eval o).run P W = r at h5 ⊢
            cases r with
            | halt x w' => simp only [Oper.growUpon] at h5
            | ok x w' =>
              cases x <;> simp only [Oper.growUpon] at h5 <;> simp only [Oper.upon]
              case value u => obtain ⟨rfl, rfl⟩ := h5; exact ih _ po _ _ hb hp h4
              case skip => obtain ⟨rfl, rfl⟩ := h5; exact ih _ po _ _ hb hp h4
              case enter f' args =>
                obtain ⟨rfl, h6⟩ := h5
                refine h6.mono ?_
                rintro e W'' ⟨rfl, hb2⟩
                refine ih _ po _ _ (hb.trans (hb2.mono hb.size)) (fun p hp' => ?_) h4
                obtain ⟨h7, h8⟩ := hp p hp'
                exact ⟨h7, (hb2.block p (Array.getElem?_eq_some_iff.1 h8).1).trans h8⟩
          · rename_i hw
            rw [if_neg hw] at h1
            exact ih _ po _ _ hb hp h1
  have := sound (n + 1) _ none a { w with drawn := w.drawn + 1 } ((Below.refl _ _).drew) (fun p hp => by cases hp) H
  rw [show n + 1 + (l.toArray.size - (n + 1)) = l.toArray.size by omega] at this
  exact this
end Go

/- A REGION's LAST OPERATION, AND WHAT STANDS BEHIND IT. -/
set_option linter.unusedSimpArgs false
set_option linter.unusedVariables false
namespace Go
open Go.RowKit
section
variable {P : Program} {ops : Array Oper} {md : Region.Mode} {w0 : World} {B n : Nat}

def wpAnyR (P : Program) (md : Region.Mode) (ops : Array Oper) (w0 : World) (n : Nat) (L : Array Bool → Act → Prop) : Nat → Array Bool → Act → Prop
  | 0, listed, a => L listed a
  | f + 1, listed, a =>
    Region.ready md ops listed ≠ [] ∧ ∀ i ∈ Region.ready md ops listed, i < n ∧ rOp P ops w0 i (wpAnyR P md ops w0 n L f (listed.setIfInBounds i true)) a

theorem wpAnyR_first {i : Nat} {oi : Oper} {v : Value} {L : Array Bool → Act → Prop} (hi : ops[i]? = some oi) (hsel : ∀ (j : Nat) (o : Oper) cs b, ops[j]? = some o → o.op ≠ .select cs b)
    (hs : Region.sinkB md ops n = true) (hc : Region.chainB md ops n = true) (hn : n < ops.size) (hin : i < n)
    (hdone : ∀ listed a, L listed a → ∀ j ∈ Region.ready md ops listed, n ≤ j) :
    ∀ (f : Nat) (listed : Array Bool) (a : Act), HeadInv md ops n listed →
      (∀ j oj, ops[j]? = some oj → j ≠ i → listed.getD j true = false → (∀ e ∈ oj.after, Region.binds md e = true → e.on ≠ i) → oi.apart ops oj = true) →
      i ∈ Region.ready md ops listed → YieldsG P ops w0 oi v a →
      wpAnyR P md ops w0 n L f (listed.setIfInBounds i true) (a.put oi.dst v) → wpAnyR P md ops w0 n L (f + 1) listed a := by
  intro f
  induction f with
  | zero =>
    intro listed a inv _ hr hy H
    have hun := (mem_ready.1 hr).1
    refine ⟨fun h => (by rw [h] at hr; cases hr), fun j hj => ?_⟩
    have hjn : j < n := by
      rcases Nat.lt_or_ge j n with h | h
      · exact h
      · exact absurd hj (tail_waits hs hc hn inv _ i rfl hin hun j h)
    refine ⟨hjn, ?_⟩
    by_cases hji : j = i
    · subst hji; exact hy.rOp hi H
    · have := hdone _ _ H j (ready_mono hj hji)
      omega
  | succ f ih =>
    intro listed a inv hfree hr hy H
    have hun := (mem_ready.1 hr).1
    refine ⟨fun h => (by rw [h] at hr; cases hr), fun j hj => ?_⟩
    have hjn : j < n := by
      rcases Nat.lt_or_ge j n with h | h
      · exact h
      · exact absurd hj (tail_waits hs hc hn inv _ i rfl hin hun j h)
    refine ⟨hjn, ?_⟩
    by_cases hji : j = i
    · subst hji; exact hy.rOp hi H
    · have h1 := (H.2 j (ready_mono hj hji)).2
      obtain ⟨hjun, oj, hoj, hall⟩ := mem_ready.1 hj
      have hnot : ∀ e ∈ oj.after, Region.binds md e = true → e.on ≠ i := fun e he hb heq => by
        have h1 := hall e he hb
        rw [heq, getD_both hun] at h1
        cases h1
      have h2 := rOp_put hoj (hfree j oj hoj hji hjun hnot) (fun cs b => hsel i oi cs b hi) (fun cs b => hsel j oj cs b hoj) hy h1
      have hfree' : ∀ k ok, ops[k]? = some ok → k ≠ i → (listed.setIfInBounds j true).getD k true = false →
          (∀ e ∈ ok.after, Region.binds md e = true → e.on ≠ i) → oi.apart ops ok = true := fun k ok hk hki hun hno => by
        refine hfree k ok hk hki ?_ hno
        by_cases hjk : j = k
        · subst hjk; exact hjun
        · rw [getD_set_ne true hjk] at hun; exact hun
      refine rOp_mono (fun a' h3 => ih (listed.setIfInBounds j true) a' (inv.set hj hjn) hfree' (ready_mono hr (Ne.symm hji)) h3.1 ?_) h2
      rw [Array.setIfInBounds_comm _ _ hji]
      exact h3.2

theorem wpAnyR_lex {g : Nat} {Lq : Act → Prop} (hsel : Region.noSelect ops = true) (hs : Region.sinkB md ops n = true) (hc : Region.chainB md ops n = true) (hn : n < ops.size) :
    ∀ (l : List Oper) (k : Nat) (listed : Array Bool) (a : Act), (∀ j, j < l.length → l[j]? = ops[k + j]?) → k + l.length = n → HeadInv md ops n listed →
    Region.lexHead md ops g l.length k listed = true → wpGrow P ops w0 Lq l a →
    wpAnyR P md ops w0 n (fun listed' a' => Region.seqB md ops g n listed' = true ∧ Lq a') l.length listed a
  | [], k, listed, a, _, hk, inv, hB, h => by
    have : k = n := by simpa using hk
    subst this
    simp only [List.length_nil, Region.lexHead] at hB
    exact ⟨hB, h⟩
  | o :: l, k, listed, a, hl, hk, inv, hB, h => by
    have h0 : ops[k]? = some o := by simpa using (hl 0 (by simp)).symm
    simp only [List.length_cons] at hB
    unfold Region.lexHead at hB
    simp only [Bool.and_eq_true] at hB
    obtain ⟨⟨hr, hf⟩, hB'⟩ := hB
    have hkn : k < n := by simp only [List.length_cons] at hk; omega
    have hr' : k ∈ Region.ready md ops listed := by simpa using hr
    have hst : rOp P ops w0 k (wpGrow P ops w0 Lq l) a := by unfold rOp; simp only [h0]; exact h
    obtain ⟨v, hy, hK⟩ := yieldsG_of_rOp h0 hst
    exact wpAnyR_first h0 (Region.noSelect_spec hsel) hs hc hn hkn (fun listed' a' hL => seqB_ready hL.1) l.length listed a inv (Region.free_spec h0 hf) hr' hy
      (wpAnyR_lex hsel hs hc hn l (k + 1) _ _ (fun j hj => by have := hl (j + 1) (by simp; omega); simpa [Nat.add_assoc, Nat.add_comm 1 j] using this) (by simp only [List.length_cons] at hk; omega) (inv.set hr' hkn) hB' hK)
end

/-- A REGION THAT DRAWS: n quiet operations (calls may lay blocks), and what is done behind them all. -/
theorem wp_region_ext_tail {P : Program} {id : Nat} {Q : Exit → Act → World → Prop} {a : Act} {w : World} {l : List Oper} (n : Nat) (hm : P.follows .mixedOrders = true)
    (hB : Region.lexTailB .any l.toArray n = true)
    (h : wpGrow P l.toArray w (fun a' => ∀ W, Below w.heap.size w W → wpList P l.toArray Q (l.drop n) a' W) (l.take n) a) : (Code.region id l.toArray true).wp P Q a w := by
  simp only [Region.lexTailB, Bool.and_eq_true, decide_eq_true_eq] at hB
  obtain ⟨⟨⟨⟨hsel, hn⟩, hs⟩, hc⟩, hlex⟩ := hB
  have hn' : n < l.length := by simpa using hn
  have htl : (l.take n).length = n := by simp; omega
  have hdl : (l.drop n).length = l.toArray.size - n := by simp
  have inv0 : HeadInv .any l.toArray n (Array.replicate l.toArray.size false) :=
    ⟨by simp, fun j oj _ hl => (by rw [getD_replicate_false] at hl; cases hl), fun t _ ht => getD_in (by simpa using ht) (getD_replicate_false _ _)⟩
  have H := wpAnyR_lex (P := P) (w0 := w) (md := .any) (g := l.toArray.size - n) hsel hs hc hn (l.take n) 0 _ a (fun j hj => by
    have hj' : j < n := by rw [htl] at hj; exact hj
    simp [hj']) (by simpa using htl) inv0 (by rw [htl]; exact hlex) h
  rw [htl] at H
  refine wp_region_any hm ?_
  have sound : ∀ (f : Nat) (listed : Array Bool) (a' : Act) (W : World), Below w.heap.size w W →
      wpAnyR P .any l.toArray w n (fun listed' a' => Region.seqB .any l.toArray (l.toArray.size - n) n listed' = true ∧ ∀ W, Below w.heap.size w W → wpList P l.toArray Q (l.drop n) a' W) f listed a' →
      wpAny P .any l.toArray Q (f + (l.toArray.size - n)) listed a' W := by
    intro f
    induction f with
    | zero =>
      intro listed a' W hb hL
      obtain ⟨hseq, hrun⟩ := hL
      rw [Nat.zero_add]
      have := wpAny_of_seq (P := P) (md := .any) (Q' := Q) (l.drop n) n listed _ W (fun j => by simp [List.getElem?_drop]) (by rw [hdl]; exact hseq) (hrun W hb)
      rw [hdl] at this
      simpa using this
    | succ f ih =>
      intro listed a' W hb hL
      rw [show f + 1 + (l.toArray.size - n) = (f + (l.toArray.size - n)) + 1 by omega]
      refine ⟨fun h0 => absurd h0 hL.1, fun i hi => ?_⟩
      have h1 := (hL.2 i hi).2
      unfold rOp at h1
      unfold wpOp
      cases ho : l.toArray[i]? with
      | none => simp only [ho] at h1 ⊢; exact ih _ _ _ hb h1
      | some o =>
        simp only [ho] at h1 ⊢
        split
        · rename_i hw
          rw [if_pos hw] at h1
          left
          obtain ⟨v, h3, h4⟩ := h1
          obtain ⟨g, hg'⟩ := World.ext_of hb
          have h5 := h3 g
          rw [← hg'] at h5
          unfold Oper.growAt at h5
          unfold Oper.wp
          generalize (execOp a'.eval o).run P W = r at h5 ⊢
          cases r with
          | halt x w' => simp only [Oper.growUpon] at h5
          | ok x w' =>
            cases x <;> simp only [Oper.growUpon] at h5 <;> simp only [Oper.upon]
            case value u => obtain ⟨rfl, rfl⟩ := h5; exact ih _ _ _ hb h4
            case skip => obtain ⟨rfl, rfl⟩ := h5; exact ih _ _ _ hb h4
            case enter f' args =>
              obtain ⟨rfl, h6⟩ := h5
              refine h6.mono ?_
              rintro e W'' ⟨rfl, hb2⟩
              exact ih _ _ _ (hb.trans (hb2.mono hb.size)) h4
        · rename_i hw
          rw [if_neg hw] at h1
          exact ih _ _ _ hb h1
  have := sound n _ a { w with drawn := w.drawn + 1 } ((Below.refl _ _).drew) H
  rw [show n + (l.toArray.size - n) = l.toArray.size by omega] at this
  exact this
theorem wp_region_ext_new {P : Program} {id : Nat} {Q : Exit → Act → World → Prop} {a : Act} {w : World} {l : List Oper} (n : Nat) (T : TypeId) (z : Value) (d : Tmp) (hm : P.follows .mixedOrders = true)
    (hB : Region.lexTailB .any l.toArray (n + 1) = true) (hop : (l[n]?).map (fun o => (o.op matches .alloc _, o.guard.isNone)) = some (true, true)) (hT : (l[n]?).map (fun o => o.op) = some (.alloc T)) (hd : (l[n]?).bind (·.dst) = some d)
    (hz : ∀ W, (zeroValue T).run P W = .ok z W)
    (h : wpGrow P l.toArray w (fun a' => ∀ p W, w.heap.size ≤ p → Below w.heap.size w W → W.heap[p]? = some (.cells z.cells T (0, 0)) →
      wpList P l.toArray Q (l.drop (n + 1)) (a'.put (some d) (.pointer (some ⟨p, 0, none⟩))) W) (l.take n) a) : (Code.region id l.toArray true).wp P Q a w :=
  wp_region_ext_alloc n T z hm hB hop hT hz (by rw [hd]; exact h)
theorem Owns.fresh {w W W1 : World} {L : List (Nat × Array Value)} {p : Nat} {c : Array Value} {T : TypeId} (h : Owns w W L) (hp : W.heap.size ≤ p) (hb : Below W.heap.size W W1) (h6 : W1.heap[p]? = some (.cells c T (0, 0))) : Owns w W1 (L ++ [(p, c)]) := by
  refine ⟨h.below.trans (hb.mono h.below.size), fun q hq => ?_⟩
  rcases List.mem_append.1 hq with hq | hq
  · exact (h.call hb).blocks q hq
  · simp only [List.mem_singleton] at hq
    subst hq
    refine ⟨Nat.le_trans h.below.size hp, (Array.getElem?_eq_some_iff.1 h6).1, rowD_of_heap h6, fun i => ?_⟩
    simp [World.frozen?, h6]
end Go

/- OPERATIONS THAT STAND ALONE IN THE MIDST OF A REGION. -/
set_option linter.unusedSimpArgs false
set_option linter.unusedVariables false
namespace Go
open Go.RowKit
section
variable {P : Program} {ops : Array Oper} {md : Region.Mode} {w0 : World} {m : Nat}

/-- an operation that ends well: a value, nothing, or a call that returns -/
def Oper.calmUpon (P : Program) (o : Oper) (a : Act) (K : Act → World → Prop) : Result Next → Prop
  | .ok (.value v) w' => K (a.put o.dst v) w'
  | .ok .skip w' => K (a.put o.dst undef) w'
  | .ok (.enter f args) w' => Calls P f args w' fun e w'' => ∃ v, e = .returned v ∧ K (a.put o.dst v) w''
  | _ => False
def Oper.calm (P : Program) (o : Oper) (a : Act) (W : World) (K : Act → World → Prop) : Prop := o.calmUpon P a K ((execOp a.eval o).run P W)
def mOp (P : Program) (ops : Array Oper) (i : Nat) (K : Act → World → Prop) (a : Act) (W : World) : Prop :=
  match ops[i]? with
  | none => K a W
  | some o => if Region.wanted o (yielded ops a.tmps) then o.calm P a W K else K (a.put o.dst undef) W
theorem Oper.calm_mono {o : Oper} {a : Act} {W : World} {K K' : Act → World → Prop} (h : ∀ a w, K a w → K' a w) (hh : o.calm P a W K) : o.calm P a W K' := by
  unfold Oper.calm at *
  generalize (execOp a.eval o).run P W = r at *
  cases r with
  | ok n w' =>
    cases n <;> simp only [Oper.calmUpon] at hh ⊢
    · exact h _ _ hh
    · exact h _ _ hh
    · exact hh.mono fun e w'' ⟨v, he, hk⟩ => ⟨v, he, h _ _ hk⟩
  | halt x w' => simp only [Oper.calmUpon] at hh
theorem mOp_mono {i : Nat} {a : Act} {W : World} {K K' : Act → World → Prop} (h : ∀ a w, K a w → K' a w) (hh : mOp P ops i K a W) : mOp P ops i K' a W := by
  unfold mOp at *
  split
  · exact h _ _ (by simpa [*] using hh)
  · rename_i o ho
    simp only [ho] at hh
    split
    · rename_i hw; simp only [hw, if_true] at hh; exact Oper.calm_mono h hh
    · rename_i hw; simp only [hw] at hh; exact h _ _ hh
theorem mOp_put {j : Nat} {oi oj : Oper} {v : Value} (hj : ops[j]? = some oj) (hap : oi.apart ops oj = true)
    (hsi : ∀ cs b, oi.op ≠ .select cs b) (hsj : ∀ cs b, oj.op ≠ .select cs b) {K : Act → World → Prop} {a : Act} {W : World}
    (hy : YieldsG P ops w0 oi v a) (h : mOp P ops j K (a.put oi.dst v) W) :
    mOp P ops j (fun a' w' => YieldsG P ops w0 oi v a' ∧ K (a'.put oi.dst v) w') a W := by
  obtain ⟨h1, h2, h3⟩ := Oper.apart_spec hap
  have keep : ∀ (a : Act), YieldsG P ops w0 oi v a → ∀ u, YieldsG P ops w0 oi v (a.put oj.dst u) := fun a hy u =>
    hy.of_same (execOp_put oi hsi a oj.dst u h3) (wanted_put oi a oj.dst u h3)
  unfold mOp at *
  simp only [hj] at *
  rw [wanted_put oj a oi.dst v h1] at h
  split
  · rename_i hw
    simp only [hw, if_true] at h
    unfold Oper.calm at *
    rw [execOp_put oj hsj a oi.dst v h1] at h
    generalize (execOp a.eval oj).run P W = r at *
    cases r with
    | ok n w' =>
      cases n <;> simp only [Oper.calmUpon] at h ⊢
      case value u => exact ⟨keep a hy u, by rw [← Act.put_comm a v u h2]; exact h⟩
      case skip => exact ⟨keep a hy _, by rw [← Act.put_comm a v undef h2]; exact h⟩
      case enter f args => exact h.mono fun e w'' ⟨u, he, hk⟩ => ⟨u, he, keep a hy u, by rw [← Act.put_comm a v u h2]; exact hk⟩
    | halt x w' => simp only [Oper.calmUpon] at h
  · rename_i hw
    simp only [hw] at h
    exact ⟨keep a hy _, by rw [← Act.put_comm a v undef h2]; exact h⟩

/-- every order of the operations below m; ahead of each of them the memory may have grown -/
def wpAnyM (P : Program) (md : Region.Mode) (ops : Array Oper) (w0 : World) (m : Nat) (L : Array Bool → Act → World → Prop) : Nat → Array Bool → Act → World → Prop
  | 0, listed, a, W => ∀ W', Below W.heap.size W W' → L listed a W'
  | f + 1, listed, a, W =>
    Region.ready md ops listed ≠ [] ∧ ∀ i ∈ Region.ready md ops listed, i < m ∧ ∀ W', Below W.heap.size W W' →
      mOp P ops i (fun a' W'' => Below w0.heap.size w0 W'' ∧ wpAnyM P md ops w0 m L f (listed.setIfInBounds i true) a' W'') a W'
theorem wpAnyM_grow {L : Array Bool → Act → World → Prop} : ∀ {f : Nat} {listed : Array Bool} {a : Act} {W W1 : World}, Below W.heap.size W W1 → wpAnyM P md ops w0 m L f listed a W → wpAnyM P md ops w0 m L f listed a W1
  | 0, _, _, _, _, hb, h => fun W' hb' => h W' (hb.trans (hb'.mono hb.size))
  | f + 1, _, _, _, _, hb, h => ⟨h.1, fun i hi => ⟨(h.2 i hi).1, fun W' hb' => (h.2 i hi).2 W' (hb.trans (hb'.mono hb.size))⟩⟩

theorem mOp_quiet {i : Nat} {oi : Oper} {v : Value} {a : Act} {W : World} {K : Act → World → Prop} (hi : ops[i]? = some oi) (hy : YieldsG P ops w0 oi v a) (hb : Below w0.heap.size w0 W) (h : ∀ W', Below W.heap.size W W' → K (a.put oi.dst v) W') : mOp P ops i K a W := by
  unfold mOp
  simp only [hi]
  rcases hy with ⟨hw, hv⟩ | ⟨hw, rfl⟩
  · simp only [hw, if_true]
    obtain ⟨g, hg⟩ := World.ext_of hb
    have h5 := hv g
    rw [← hg] at h5
    unfold Oper.growAt at h5
    unfold Oper.calm
    generalize (execOp a.eval oi).run P W = r at h5 ⊢
    cases r with
    | halt x w' => simp only [Oper.growUpon] at h5
    | ok x w' =>
      cases x <;> simp only [Oper.growUpon] at h5 <;> simp only [Oper.calmUpon]
      case value u => obtain ⟨rfl, rfl⟩ := h5; exact h _ (Below.refl _ _)
      case skip => obtain ⟨rfl, rfl⟩ := h5; exact h _ (Below.refl _ _)
      case enter f' args => obtain ⟨rfl, h6⟩ := h5; exact h6.mono fun e w'' ⟨he, hb2⟩ => ⟨v, he, h _ hb2⟩
  · simp only [hw, Bool.false_eq_true, if_false]
    exact h _ (Below.refl _ _)

theorem wpAnyM_first {i : Nat} {oi : Oper} {v : Value} {L : Array Bool → Act → World → Prop} (hi : ops[i]? = some oi) (hsel : ∀ (j : Nat) (o : Oper) cs b, ops[j]? = some o → o.op ≠ .select cs b)
    (hs : Region.sinkB md ops m = true) (hc : Region.chainB md ops m = true) (hn : m < ops.size) (hin : i < m)
    (hdone : ∀ listed a W, L listed a W → ∀ j ∈ Region.ready md ops listed, m ≤ j) :
    ∀ (f : Nat) (listed : Array Bool) (a : Act) (W : World), HeadInv md ops m listed → Below w0.heap.size w0 W →
      (∀ j oj, ops[j]? = some oj → j ≠ i → listed.getD j true = false → (∀ e ∈ oj.after, Region.binds md e = true → e.on ≠ i) → oi.apart ops oj = true) →
      i ∈ Region.ready md ops listed → YieldsG P ops w0 oi v a →
      wpAnyM P md ops w0 m L f (listed.setIfInBounds i true) (a.put oi.dst v) W → wpAnyM P md ops w0 m L (f + 1) listed a W := by
  intro f
  induction f with
  | zero =>
    intro listed a W inv hW _ hr hy H
    have hun := (mem_ready.1 hr).1
    refine ⟨fun h => (by rw [h] at hr; cases hr), fun j hj => ?_⟩
    have hjn : j < m := by
      rcases Nat.lt_or_ge j m with h | h
      · exact h
      · exact absurd hj (tail_waits hs hc hn inv _ i rfl hin hun j h)
    refine ⟨hjn, fun W' hb => ?_⟩
    by_cases hji : j = i
    · subst hji
      refine mOp_quiet hi hy (hW.trans (hb.mono hW.size)) fun W'' hb2 => ⟨(hW.trans (hb.mono hW.size)).trans (hb2.mono (hW.trans (hb.mono hW.size)).size), ?_⟩
      exact fun W3 hb3 => H W3 ((hb.trans (hb2.mono hb.size)).trans (hb3.mono (hb.trans (hb2.mono hb.size)).size))
    · have := hdone _ _ _ (H W (Below.refl _ _)) j (ready_mono hj hji)
      omega
  | succ f ih =>
    intro listed a W inv hW hfree hr hy H
    have hun := (mem_ready.1 hr).1
    refine ⟨fun h => (by rw [h] at hr; cases hr), fun j hj => ?_⟩
    have hjn : j < m := by
      rcases Nat.lt_or_ge j m with h | h
      · exact h
      · exact absurd hj (tail_waits hs hc hn inv _ i rfl hin hun j h)
    refine ⟨hjn, fun W' hb => ?_⟩
    by_cases hji : j = i
    · subst hji
      refine mOp_quiet hi hy (hW.trans (hb.mono hW.size)) fun W'' hb2 => ⟨(hW.trans (hb.mono hW.size)).trans (hb2.mono (hW.trans (hb.mono hW.size)).size), ?_⟩
      exact wpAnyM_grow (hb.trans (hb2.mono hb.size)) H
    · have h1 := (H.2 j (ready_mono hj hji)).2 W' hb
      obtain ⟨hjun, oj, hoj, hall⟩ := mem_ready.1 hj
      have hnot : ∀ e ∈ oj.after, Region.binds md e = true → e.on ≠ i := fun e he hb heq => by
        have h1 := hall e he hb
        rw [heq, getD_both hun] at h1
        cases h1
      have h2 := mOp_put hoj (hfree j oj hoj hji hjun hnot) (fun cs b => hsel i oi cs b hi) (fun cs b => hsel j oj cs b hoj) hy h1
      have hfree' : ∀ k ok, ops[k]? = some ok → k ≠ i → (listed.setIfInBounds j true).getD k true = false →
          (∀ e ∈ ok.after, Region.binds md e = true → e.on ≠ i) → oi.apart ops ok = true := fun k ok hk hki hun hno => by
        refine hfree k ok hk hki ?_ hno
        by_cases hjk : j = k
        · subst hjk; exact hjun
        · rw [getD_set_ne true hjk] at hun; exact hun
      refine mOp_mono (fun a' W'' h3 => ⟨h3.2.1, ih (listed.setIfInBounds j true) a' W'' (inv.set hj hjn) h3.2.1 hfree' (ready_mono hr (Ne.symm hji)) h3.1 ?_⟩) h2
      rw [Array.setIfInBounds_comm _ _ hji]
      exact h3.2.2

/-- the operations in the middle: one behind the other; ahead of each of them the memory may have grown -/
def wpMid (P : Program) (w0 : World) (Q : Act → World → Prop) : List Oper → Act → World → Prop
  | [], a, W => ∀ W', Below W.heap.size W W' → Q a W'
  | o :: rest, a, W => o.guard = none ∧ ∀ W', Below W.heap.size W W' → o.calm P a W' (fun a'' W'' => Below w0.heap.size w0 W'' ∧ wpMid P w0 Q rest a'' W'')
theorem wpMid_nil {Q : Act → World → Prop} {a : Act} {W : World} (h : ∀ W', Below W.heap.size W W' → Q a W') : wpMid P w0 Q [] a W := h
theorem wpMid_step {Q : Act → World → Prop} {a : Act} {W : World} {o : Oper} {rest : List Oper} (hg : o.guard = none)
    (h : ∀ W', Below W.heap.size W W' → ∀ K : Act → World → Prop, (∀ a w, Below w0.heap.size w0 w → wpMid P w0 Q rest a w → K a w) → o.calm P a W' K) : wpMid P w0 Q (o :: rest) a W :=
  ⟨hg, fun W' hb => h W' hb _ fun _ _ h1 h2 => ⟨h1, h2⟩⟩

theorem wpAnyM_mid {g : Nat} {Lq : Act → World → Prop} (hn : m < ops.size) :
    ∀ (l : List Oper) (k : Nat) (listed : Array Bool) (a : Act) (W : World), (∀ j, j < l.length → l[j]? = ops[k + j]?) → k + l.length = m → Region.seqB md ops (l.length + g) k listed = true → wpMid P w0 Lq l a W →
    wpAnyM P md ops w0 m (fun listed' a' W' => Region.seqB md ops g m listed' = true ∧ Lq a' W') l.length listed a W
  | [], k, listed, a, W, _, hk, hB, h => by
    have : k = m := by simpa using hk
    subst this
    simp only [List.length_nil, Nat.zero_add] at hB
    exact fun W' hb => ⟨hB, h W' hb⟩
  | o :: l, k, listed, a, W, hl, hk, hB, h => by
    have h0 : ops[k]? = some o := by simpa using (hl 0 (by simp)).symm
    simp only [List.length_cons] at hB
    rw [show l.length + 1 + g = (l.length + g) + 1 by omega] at hB
    simp only [Region.seqB, Bool.and_eq_true, decide_eq_true_eq] at hB
    refine ⟨fun h1 => (by rw [hB.1] at h1; cases h1), fun i hi => ?_⟩
    rw [hB.1] at hi
    have hik : i = k := by simpa using hi
    subst hik
    refine ⟨by simp only [List.length_cons] at hk; omega, fun W' hb => ?_⟩
    unfold mOp
    simp only [h0]
    rw [if_pos (by simp [Region.wanted, h.1])]
    exact Oper.calm_mono (o := o) (W := W') (a := a) (fun a' W'' h3 => ⟨h3.1, wpAnyM_mid hn l (i + 1) _ a' W'' (fun j hj => by have := hl (j + 1) (by simp; omega); simpa [Nat.add_assoc, Nat.add_comm 1 j] using this) (by simp only [List.length_cons] at hk; omega) hB.2 h3.2⟩) (h.2 W' hb)

theorem wpAnyM_lex {g : Nat} {Lq : Act → World → Prop} {mid : List Oper} (hsel : Region.noSelect ops = true) (hs : Region.sinkB md ops m = true) (hc : Region.chainB md ops m = true) (hn : m < ops.size) :
    ∀ (l : List Oper) (k : Nat) (listed : Array Bool) (a : Act) (W : World), (∀ j, j < (l ++ mid).length → (l ++ mid)[j]? = ops[k + j]?) → k + (l ++ mid).length = m → HeadInv md ops m listed → Below w0.heap.size w0 W →
    Region.lexHead md ops (mid.length + g) l.length k listed = true → wpGrow P ops w0 (fun a' => ∀ W, Below w0.heap.size w0 W → wpMid P w0 Lq mid a' W) l a →
    wpAnyM P md ops w0 m (fun listed' a' W' => Region.seqB md ops g m listed' = true ∧ Lq a' W') (l.length + mid.length) listed a W
  | [], k, listed, a, W, hl, hk, inv, hW, hB, h => by
    simp only [List.length_nil, Region.lexHead] at hB
    rw [List.length_nil, Nat.zero_add]
    exact wpAnyM_mid hn mid k listed a W hl (by simpa using hk) hB (h W hW)
  | o :: l, k, listed, a, W, hl, hk, inv, hW, hB, h => by
    have h0 : ops[k]? = some o := by simpa using (hl 0 (by simp)).symm
    simp only [List.length_cons] at hB
    unfold Region.lexHead at hB
    simp only [Bool.and_eq_true] at hB
    obtain ⟨⟨hr, hf⟩, hB'⟩ := hB
    have hkn : k < m := by simp only [List.cons_append, List.length_cons] at hk; omega
    have hr' : k ∈ Region.ready md ops listed := by simpa using hr
    have hst : rOp P ops w0 k (wpGrow P ops w0 (fun a' => ∀ W, Below w0.heap.size w0 W → wpMid P w0 Lq mid a' W) l) a := by unfold rOp; simp only [h0]; exact h
    obtain ⟨v, hy, hK⟩ := yieldsG_of_rOp h0 hst
    rw [List.length_cons, show l.length + 1 + mid.length = (l.length + mid.length) + 1 by omega]
    exact wpAnyM_first h0 (Region.noSelect_spec hsel) hs hc hn hkn (fun listed' a' W' hL => seqB_ready hL.1) (l.length + mid.length) listed a W inv hW (Region.free_spec h0 hf) hr' hy
      (wpAnyM_lex hsel hs hc hn l (k + 1) _ _ W (fun j hj => by have := hl (j + 1) (by simp only [List.cons_append, List.length_cons] at *; omega); simpa [Nat.add_assoc, Nat.add_comm 1 j] using this) (by simp only [List.cons_append, List.length_cons] at hk; omega) (inv.set hr' hkn) hW hB' hK)
end

/-- what is asked of the region's form: n quiet operations, then q more, one behind the other, then the others -/
def Region.midB (md : Region.Mode) (ops : Array Oper) (n q : Nat) : Bool :=
  Region.noSelect ops && decide (n + q < ops.size) && Region.sinkB md ops (n + q) && Region.chainB md ops (n + q) && Region.lexHead md ops (q + (ops.size - (n + q))) n 0 (Array.replicate ops.size false)

/-- A REGION THAT DRAWS: n quiet operations (calls may lay blocks), q operations that may lay blocks or write to new ones, and what is done behind them all. -/
theorem wp_region_mid {P : Program} {id : Nat} {Q : Exit → Act → World → Prop} {a : Act} {w : World} {l : List Oper} (n q : Nat) (hm : P.follows .mixedOrders = true)
    (hB : Region.midB .any l.toArray n q = true)
    (h : wpGrow P l.toArray w (fun a' => ∀ W, Below w.heap.size w W → wpMid P w (fun a'' W' => wpList P l.toArray Q (l.drop (n + q)) a'' W') ((l.drop n).take q) a' W) (l.take n) a) : (Code.region id l.toArray true).wp P Q a w := by
  simp only [Region.midB, Bool.and_eq_true, decide_eq_true_eq] at hB
  obtain ⟨⟨⟨⟨hsel, hn⟩, hs⟩, hc⟩, hlex⟩ := hB
  have hn' : n + q < l.length := by simpa using hn
  have htl : (l.take n).length = n := by simp; omega
  have hql : ((l.drop n).take q).length = q := by simp; omega
  have hdl : (l.drop (n + q)).length = l.toArray.size - (n + q) := by simp
  have hcat : l.take n ++ (l.drop n).take q = l.take (n + q) := by rw [List.take_add]
  have inv0 : HeadInv .any l.toArray (n + q) (Array.replicate l.toArray.size false) :=
    ⟨by simp, fun j oj _ hl => (by rw [getD_replicate_false] at hl; cases hl), fun t _ ht => getD_in (by simpa using ht) (getD_replicate_false _ _)⟩
  have H := wpAnyM_lex (P := P) (w0 := w) (md := .any) (m := n + q) (g := l.toArray.size - (n + q)) (mid := (l.drop n).take q) hsel hs hc hn (l.take n) 0 _ a { w with drawn := w.drawn + 1 } (fun j hj => by
    rw [hcat] at hj ⊢
    have hj' : j < n + q := by simp at hj; omega
    simp [hj']) (by rw [hcat]; simp; omega) inv0 ((Below.refl _ _).drew) (by rw [htl, hql]; exact hlex) h
  rw [htl, hql] at H
  refine wp_region_any hm ?_
  have sound : ∀ (f : Nat) (listed : Array Bool) (a' : Act) (W : World),
      wpAnyM P .any l.toArray w (n + q) (fun listed' a' W' => Region.seqB .any l.toArray (l.toArray.size - (n + q)) (n + q) listed' = true ∧ wpList P l.toArray Q (l.drop (n + q)) a' W') f listed a' W →
      wpAny P .any l.toArray Q (f + (l.toArray.size - (n + q))) listed a' W := by
    intro f
    induction f with
    | zero =>
      intro listed a' W hL
      obtain ⟨hseq, hrun⟩ := hL W (Below.refl _ _)
      rw [Nat.zero_add]
      have := wpAny_of_seq (P := P) (md := .any) (Q' := Q) (l.drop (n + q)) (n + q) listed _ W (fun j => by simp [List.getElem?_drop]) (by rw [hdl]; exact hseq) hrun
      rw [hdl] at this
      simpa using this
    | succ f ih =>
      intro listed a' W hL
      rw [show f + 1 + (l.toArray.size - (n + q)) = (f + (l.toArray.size - (n + q))) + 1 by omega]
      refine ⟨fun h0 => absurd h0 hL.1, fun i hi => ?_⟩
      have h1 := (hL.2 i hi).2 W (Below.refl _ _)
      unfold mOp at h1
      unfold wpOp
      cases ho : l.toArray[i]? with
      | none => simp only [ho] at h1 ⊢; exact ih _ _ _ h1.2
      | some o =>
        simp only [ho] at h1 ⊢
        split
        · rename_i hw
          rw [if_pos hw] at h1
          left
          unfold Oper.calm at h1
          unfold Oper.wp
          generalize (execOp a'.eval o).run P W = r at h1 ⊢
          cases r with
          | halt x w' => simp only [Oper.calmUpon] at h1
          | ok x w' =>
            cases x <;> simp only [Oper.calmUpon] at h1 <;> simp only [Oper.upon]
            case value u => exact ih _ _ _ h1.2
            case skip => exact ih _ _ _ h1.2
            case enter f' args =>
              refine h1.mono ?_
              rintro e W'' ⟨v, rfl, h2⟩
              exact ih _ _ _ h2.2
        · rename_i hw
          rw [if_neg hw] at h1
          exact ih _ _ _ h1.2
  have := sound (n + q) _ a { w with drawn := w.drawn + 1 } H
  rw [show n + q + (l.toArray.size - (n + q)) = l.toArray.size by omega] at this
  exact this
attribute [go_sem] Oper.calm Oper.calmUpon
end Go

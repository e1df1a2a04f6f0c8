/- ARGUMENTS READ THROUGH MEMORY: what a struct of whole numbers holds where a datum reads it; a slice of such structs. -/
import Derived.Test.YtpoaakdljpdkfaaDoorDec
import Derived.Test.YtpoaakdljpdkfaaDoorC26
import Derived.Deep.Slices
import Derived.OpenShut
set_option linter.unusedSimpArgs false
set_option linter.unusedVariables false
namespace Go.Alm
open Go.RowKit

theorem IntCells.append : ∀ {a b : List IntKind} {x y : List Value}, IntCells a x → IntCells b y → IntCells (a ++ b) (x ++ y)
  | [], _, [], _, _, h => h
  | _ :: _, _, _ :: _, _, h, h' => ⟨h.1, IntCells.append h.2 h'⟩
  | [], _, _ :: _, _, h, _ => h.elim
  | _ :: _, _, [], _, h, _ => h.elim
theorem IntCells.glue {a b : List IntKind} {l : List Value} (n : Nat) (h1 : IntCells a (l.take n)) (h2 : IntCells b (l.drop n)) : IntCells (a ++ b) l := by
  have := IntCells.append h1 h2
  rwa [List.take_append_drop] at this

def kindsFs (P : Program) (g : TypeId → Option (List IntKind)) : List Field → Nat → Option (List IntKind)
  | [], _ => some []
  | f :: fs, o => match g f.type, kindsFs P g fs (o + P.cellsOf f.type) with
    | some a, some b => if f.offset = o ∧ a.length = P.cellsOf f.type then some (a ++ b) else none
    | _, _ => none
def kinds (P : Program) : Nat → TypeId → Option (List IntKind)
  | 0, _ => none
  | d + 1, t => match P.underlying t with
    | some (.int k) => some [k]
    | some (.array n e) => match kinds P d e with
      | some ks => if ks.length = P.cellsOf e ∧ P.cellsOf t = n * P.cellsOf e then some (List.replicate n ks).flatten else none
      | none => none
    | some (.struct fs) => match kindsFs P (kinds P d) fs.toList 0 with
      | some r => if r.length = P.cellsOf t then some r else none
      | none => none
    | _ => none

section
variable {H : Type} {enc : TypeId × Value → H} {P : Program} {w : World} {base : Nat} {sp : Nat → Bool} {held : Bool}
theorem kindsFs_ok {g : TypeId → Option (List IntKind)} {n : Nat} {cs : List Value} (hg : ∀ t ks, g t = some ks → ∀ l y, DataW.trod enc P w base sp held n t l = some y → IntCells ks l) :
    ∀ (fs : List Field) (o : Nat) (r : List IntKind), kindsFs P g fs o = some r → (∀ f ∈ fs, ∃ y, DataW.trod enc P w base sp held n f.type ((cs.drop f.offset).take (P.cellsOf f.type)) = some y) → (cs.drop o).length = r.length → IntCells r (cs.drop o)
  | [], o, r, h, _, hl => by
    simp only [kindsFs, Option.some.injEq] at h
    subst h
    rw [List.length_nil, List.length_eq_zero_iff] at hl
    rw [hl]; trivial
  | f :: fs, o, r, h, hy, hl => by
    unfold kindsFs at h
    split at h
    · rename_i a b ha hb
      split at h
      · rename_i hc
        obtain ⟨ho, hlen⟩ := hc
        simp only [Option.some.injEq] at h
        subst h
        obtain ⟨y, h1⟩ := hy f (by simp)
        rw [ho] at h1
        refine IntCells.glue (P.cellsOf f.type) (hg _ _ ha _ _ h1) ?_
        rw [List.drop_drop]
        refine kindsFs_ok hg fs _ b hb (fun f' hf' => hy f' (List.mem_cons_of_mem _ hf')) ?_
        rw [List.length_append] at hl
        rw [List.length_drop] at hl ⊢
        omega
      · cases h
    · cases h
theorem kindsArr_ok {e : TypeId} {ks : List IntKind} {n : Nat} {cs : List Value} (hg : ∀ l y, DataW.trod enc P w base sp held n e l = some y → IntCells ks l) (s : Nat) (hs : ks.length = s) :
    ∀ (m o : Nat), (∀ i, i < m → ∃ y, DataW.trod enc P w base sp held n e ((cs.drop (o + i * s)).take s) = some y) → (cs.drop o).length = m * s → IntCells (List.replicate m ks).flatten (cs.drop o)
  | 0, o, _, hl => by
    rw [Nat.zero_mul, List.length_eq_zero_iff] at hl
    rw [hl]; trivial
  | m + 1, o, hy, hl => by
    rw [List.replicate_succ, List.flatten_cons]
    obtain ⟨y, h1⟩ := hy 0 (by omega)
    rw [Nat.zero_mul, Nat.add_zero] at h1
    refine IntCells.glue s (hg _ _ h1) ?_
    rw [List.drop_drop]
    refine kindsArr_ok hg s hs m (o + s) (fun i hi => ?_) ?_
    · have := hy (i + 1) (by omega)
      rw [show o + (i + 1) * s = o + s + i * s by rw [Nat.add_mul]; omega] at this
      exact this
    · rw [List.length_drop] at hl ⊢
      rw [Nat.add_mul] at hl
      omega
theorem trod_ints : ∀ (d : Nat) (t : TypeId) (ks : List IntKind), kinds P d t = some ks → ∀ (n : Nat) (cs : List Value) (x : DataW H × List MemPlace), DataW.trod enc P w base sp held n t cs = some x → IntCells ks cs
  | 0, _, _, h, _, _, _, _ => by cases h
  | d + 1, t, ks, h, n, cs, x, ht => by
    unfold kinds at h
    split at h
    · rename_i k hk
      simp only [Option.some.injEq] at h
      subst h
      obtain ⟨z, rfl, _, hw⟩ := DataW.trod_int hk ht
      refine ⟨⟨z, rfl, ?_⟩, trivial⟩
      simpa [Lit.wf, IntKind.has] using hw
    · rename_i m e hk
      split at h
      · rename_i ks' hks
        split at h
        · rename_i hc
          simp only [Option.some.injEq] at h
          subst h
          obtain ⟨xs, n', _, _, hl, hxl, hel⟩ := DataW.trod_array hk ht
          have := kindsArr_ok (enc := enc) (P := P) (w := w) (base := base) (sp := sp) (held := held) (e := e) (ks := ks') (n := n') (cs := cs) (fun l y hy => trod_ints d e ks' hks n' l y hy) (P.cellsOf e) hc.1 m 0 (fun i hi => by
            have := hel i hi
            rw [List.getElem?_eq_getElem (by omega)] at this
            exact ⟨_, by rw [Nat.zero_add]; exact this⟩) (by rw [List.drop_zero, hl, hc.2])
          rwa [List.drop_zero] at this
        · cases h
      · cases h
    · rename_i fs hk
      split at h
      · rename_i r hr
        split at h
        · rename_i hc
          simp only [Option.some.injEq] at h
          subst h
          obtain ⟨xs, n', _, _, hl, hxl, hel⟩ := DataW.trod_struct hk ht
          have := kindsFs_ok (enc := enc) (P := P) (w := w) (base := base) (sp := sp) (held := held) (n := n') (cs := cs) (fun t' ks' hks l y hy => trod_ints d t' ks' hks n' l y hy) fs.toList 0 r hr (fun f hf => by
            obtain ⟨i, hi, hfi⟩ := List.getElem_of_mem hf
            have hi' : i < fs.size := by simpa using hi
            have := hel i f (by rw [Array.getElem?_eq_getElem hi', ← hfi, Array.getElem_toList])
            rw [List.getElem?_eq_getElem (by omega)] at this
            exact ⟨_, this⟩) (by rw [List.drop_zero, hl, hc])
          rwa [List.drop_zero] at this
        · cases h
      · cases h
    · cases h
end

theorem getElem?_rowD (w : World) (q i : Nat) (v : Value) (h : w.cell? ⟨q, i, none⟩ = some v) : q < w.heap.size ∧ (w.rowD q)[i]? = some v := by
  unfold World.cell? at h
  cases hh : w.heap[q]? with
  | none => simp [hh] at h
  | some o =>
    have hlt : q < w.heap.size := (Array.getElem?_eq_some_iff.1 hh).1
    refine ⟨hlt, ?_⟩
    rw [hh] at h
    cases o <;> simp at h
    rw [World.rowD, hh]
    exact h
theorem flat_index {α : Type} (f : α → List Value) (size : Nat) (hf : ∀ a, (f a).length = size) (l : List α) (k j : Nat) (hk : k < l.length) (hj : j < size) : (l.flatMap f)[k * size + j]? = (f l[k])[j]? := by
  have := congrArg (·[j]?) (Go.Proofs.YtpoaakdljpdkfaaDoor.flat_at f size hf l k hk)
  simp only [List.getElem?_take, if_pos hj, List.getElem?_drop] at this
  exact this
theorem addr_add (q o i : Nat) : (⟨q, o, none⟩ : Addr).add i = ⟨q, o + i, none⟩ := by
  unfold Addr.add
  split
  · rename_i h; simp_all
  · rfl
/-- A SLICE OF STRUCTS OF NUMBERS, OPENED. -/
theorem open_structs {α : Type} {H : Type} {enc : TypeId × Value → H} {P : Program} {w : World} {b0 : Nat} {t e : TypeId} {v : Value} {d : DataW H} {ps : List MemPlace} (ks : List IntKind) (f : α → Array Value) (Q : α → Prop) (size : Nat) (h0 : 0 < size) (hf : ∀ a, (f a).size = size)
    (dec : ∀ l, IntCells ks l → ∃ a, Q a ∧ l = (f a).toList) (ht : P.underlying t = some (.slice e)) (hk : kinds P 10 e = some ks) (hc : P.cellsOf e = size) (hv : Value.okWide P w .any b0 t v) (h : DataW.Trod enc P w 0 (fun _ => true) true t v d ps) :
    ∃ (ao : Option Addr) (l : List α) (cap : Nat), v = .slice ao l.length cap ∧ (∀ a ∈ l, Q a) ∧ Go.Proofs.YtpoaakdljpdkfaaDoor.AtS w ao l.length size (l.flatMap fun a => (f a).toList).toArray := by
  obtain ⟨fuel, hx⟩ := h
  have hvc : v.cells.toList = [v] := by
    unfold Value.okWide at hv
    rw [ht] at hv
    simp only at hv
    unfold Cell.okWide at hv
    rw [ht] at hv
    simp only at hv
    unfold Cell.ok at hv
    rw [ht] at hv
    cases v <;> simp only at hv
    rfl
  rw [hvc] at hx
  rcases Go.Deep.open_slice ht hx with ⟨hcs, _⟩ | ⟨a, len, cap, m, n, D, Pl, hcs, _, hle, _, hm, _, hel⟩
  · simp only [List.cons.injEq, and_true] at hcs
    subst hcs
    exact ⟨none, [], 0, rfl, by simp, .inl rfl⟩
  · simp only [List.cons.injEq, and_true] at hcs
    subst hcs
    have hspot : a.spot = none := by
      unfold Value.okWide at hv
      rw [ht] at hv
      simp only at hv
      unfold Cell.okWide at hv
      rw [ht] at hv
      simp only at hv
      unfold Cell.ok at hv
      rw [ht] at hv
      exact hv.2.2.2.1
    obtain ⟨q, o, spot⟩ := a
    simp only at hspot
    subst hspot
    have hall : ∀ i, i < len → ∃ a, Q a ∧ ∀ j, j < size → w.cell? ⟨q, o + i * size + j, none⟩ = (f a).toList[j]? := by
      intro i hi
      obtain ⟨cs', h1, h2⟩ := hel i (by simp only [if_true] at hm; omega)
      obtain ⟨a, ha, rfl⟩ := dec _ (trod_ints 10 e ks hk n cs' _ h2)
      obtain ⟨_, _, hat⟩ := World.cells?_some h1
      refine ⟨a, ha, fun j hj => ?_⟩
      have := hat j (by omega)
      rw [hc, show ((⟨q, o, none⟩ : Addr).add (i * size)).add j = ⟨q, o + i * size + j, none⟩ by rw [addr_add, addr_add]] at this
      exact this
    have hl : ∀ k, k ≤ len → ∃ l : List α, l.length = k ∧ (∀ a ∈ l, Q a) ∧ ∀ i (hi : i < l.length) j, j < size → w.cell? ⟨q, o + i * size + j, none⟩ = (f l[i]).toList[j]? := by
      intro k
      induction k with
      | zero => intro _; exact ⟨[], rfl, by simp, fun i hi => by simp at hi⟩
      | succ k ih =>
        intro hk'
        obtain ⟨l, h1, h2, h3⟩ := ih (by omega)
        obtain ⟨a, ha, hac⟩ := hall k (by omega)
        refine ⟨l ++ [a], by simp [h1], ?_, ?_⟩
        · intro x hx'
          rcases List.mem_append.1 hx' with hx' | hx'
          · exact h2 x hx'
          · simp at hx'; subst hx'; exact ha
        · intro i hi j hj
          by_cases hik : i < l.length
          · rw [List.getElem_append_left hik]; exact h3 i hik j hj
          · have : i = k := by simp at hi; omega
            subst this
            rw [List.getElem_append_right (by omega)]
            simpa [h1] using hac j hj
    obtain ⟨l, h1, h2, h3⟩ := hl len (Nat.le_refl _)
    subst h1
    refine ⟨some ⟨q, o, none⟩, l, cap, rfl, h2, ?_⟩
    by_cases hz : l.length = 0
    · exact .inl hz
    · have hfl : ∀ a, ((f a).toList).length = size := fun a => by rw [Array.length_toList, hf]
      have key : ∀ p, p < l.length * size → q < w.heap.size ∧ (w.rowD q)[o + p]? = (l.flatMap fun a => (f a).toList)[p]? := by
        intro p hp
        have hk' : p / size < l.length := Nat.div_lt_of_lt_mul (by rw [Nat.mul_comm]; exact hp)
        have hj : p % size < size := Nat.mod_lt _ h0
        have hpe : p / size * size + p % size = p := Nat.div_add_mod' p size
        have hc3 := h3 _ hk' _ hj
        have hfi := flat_index (fun a => (f a).toList) size hfl l _ _ hk' hj
        rw [hpe] at hfi
        rw [Nat.add_assoc, hpe] at hc3
        have hin : p % size < ((f l[p / size]).toList).length := by rw [hfl]; exact hj
        rw [List.getElem?_eq_getElem hin] at hc3 hfi
        obtain ⟨g1, g2⟩ := getElem?_rowD w q _ _ hc3
        exact ⟨g1, g2.trans hfi.symm⟩
      have hpos : 0 < l.length * size := Nat.mul_pos (by omega) h0
      refine .inr ⟨q, o, rfl, (key 0 hpos).1, ?_⟩
      have hflen : (l.flatMap fun a => (f a).toList).length = l.length * size := by
        rw [List.length_flatMap]
        have : l.map (fun a => ((f a).toList).length) = l.map (fun _ => size) := List.map_congr_left fun a _ => hfl a
        rw [this]; simp only [List.map_const', List.sum_replicate_nat]
      apply Array.ext_getElem?
      intro p
      rw [Array.getElem?_extract]
      simp only [List.getElem?_toArray]
      by_cases hp : p < l.length * size
      · have := (key (l.length * size - 1) (by omega)).2
        rw [List.getElem?_eq_getElem (by rw [hflen]; omega)] at this
        have hsz := (Array.getElem?_eq_some_iff.1 this).1
        rw [if_pos (by omega)]
        exact (key p hp).2
      · rw [if_neg (by omega), List.getElem?_eq_none (by rw [hflen]; omega)]
end Go.Alm

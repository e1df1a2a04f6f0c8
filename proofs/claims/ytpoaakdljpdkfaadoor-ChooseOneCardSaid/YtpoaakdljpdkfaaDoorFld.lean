/- A STATE's PARTS, PURELY: the bytes of each, and where it lies. -/
import Derived.Test.YtpoaakdljpdkfaaDoorC21
set_option linter.unusedSimpArgs false
set_option linter.unusedVariables false
namespace Go.Proofs.YtpoaakdljpdkfaaDoor
open Go.RowKit Go.Alm
def hashAt (s : St) (o : Nat) : H32 :=
  if o = 0 then s.prev else if o = 32 then s.ledger else if o = 64 then s.draw
  else if o = 105 then s.epochs.now.ledger else if o = 137 then s.epochs.now.seed else if o = 169 then s.epochs.now.start else if o = 201 then s.epochs.now.lock
  else if o = 234 then s.epochs.next.ledger else if o = 266 then s.epochs.next.seed else if o = 298 then s.epochs.next.start else s.epochs.next.lock
def numAt (s : St) (o : Nat) : Nat :=
  if o = 96 then s.slot else if o = 97 then s.length else if o = 98 then s.count else if o = 99 then s.win.min else if o = 100 then s.win.ring.last
  else if o = 101 then s.win.ring.counts.get 0 else if o = 102 then s.win.ring.counts.get 1 else if o = 103 then s.win.ring.counts.get 2 else if o = 104 then s.win.ring.counts.get 3
  else if o = 233 then s.epochs.now.length else s.epochs.next.length
def fldB (s : St) : Fld → List Nat
  | .h o => (hashAt s o).l
  | .n o => be (numAt s o) 4
theorem bytesOf_flat (s : St) : stFld.flatMap (fldB s) = bytesOf s := by
  obtain ⟨x, y, z, u, h⟩ := C4.parts s.win.ring.counts
  simp [stFld, dataFld, fldB, hashAt, numAt, bytesOf, dataBytes, h, C4.get]
theorem len_fldB (s : St) (x : Fld) : (fldB s x).length ≤ 32 := by
  cases x with
  | h o => simp [fldB, (hashAt s o).len]
  | n o => simp [fldB, be]
theorem len_flat (s : St) : ∀ l : List Fld, (l.flatMap (fldB s)).length ≤ 32 * l.length
  | [] => by simp
  | x :: l => by
    have := len_flat s l
    have := len_fldB s x
    simp only [List.flatMap_cons, List.length_append, List.length_cons]
    omega
theorem numAt_lt (s : St) (h : s.Wf) (o : Nat) : numAt s o < 4294967296 := by
  have hc : ∀ i, s.win.ring.counts.get i < 4294967296 := by
    intro i
    unfold C4.get
    rcases Nat.lt_or_ge i s.win.ring.counts.l.length with hi | hi
    · rw [List.getD_eq_getElem?_getD, List.getElem?_eq_getElem hi]
      exact h.win.ring.counts _ (List.getElem_mem hi)
    · rw [List.getD_eq_getElem?_getD, List.getElem?_eq_none hi]; decide
  have h1 := h.slot; have h2 := h.length; have h3 := h.count; have h4 := h.win.min; have h5 := h.win.ring.last; have h6 := h.now; have h7 := h.next
  unfold numAt
  repeat' split
  all_goals first | assumption | exact hc _
theorem ext_get {c d : Array Value} {a b : Nat} (h : c.extract a b = d) (i : Nat) (hi : a + i < b) : c[a + i]? = d[i]? := by
  rw [← h, Array.getElem?_extract]
  by_cases hs : i < min b c.size - a
  · rw [if_pos hs]
  · rw [if_neg hs, Array.getElem?_eq_none (by omega)]
theorem st_count_at (s : St) (i : Nat) (hi : i < 4) : (encSt s)[101 + i]? = some (.int .u32 (s.win.ring.counts.get i : Int)) := by
  rw [ext_get (st_win_ring_counts s) i (by omega)]
  simp only [encC, encCL, List.getElem?_toArray, List.getElem?_map, C4.get, List.getD_eq_getElem?_getD]
  rw [List.getElem?_eq_getElem (by rw [s.win.ring.counts.len]; exact hi)]
  rfl
theorem fld_h (s : St) (o : Nat) (h : Fld.h o ∈ stFld) : o + 32 ≤ 363 ∧ (encSt s).extract o (o + 32) = encH (hashAt s o) := by
  simp only [stFld, dataFld, List.cons_append, List.nil_append, List.mem_cons, Fld.h.injEq, List.not_mem_nil, or_false, false_or, reduceCtorEq] at h
  rcases h with rfl | rfl | rfl | rfl | rfl | rfl | rfl | rfl | rfl | rfl | rfl <;> refine ⟨by omega, ?_⟩
  · exact st_prev s
  · exact st_ledger s
  · exact st_draw s
  · exact st_epochs_now_ledger s
  · exact st_epochs_now_seed s
  · exact st_epochs_now_start s
  · exact st_epochs_now_lock s
  · exact st_epochs_next_ledger s
  · exact st_epochs_next_seed s
  · exact st_epochs_next_start s
  · exact st_epochs_next_lock s
theorem fld_n (s : St) (o : Nat) (h : Fld.n o ∈ stFld) : (encSt s)[o]? = some (.int .u32 (numAt s o : Int)) := by
  simp only [stFld, dataFld, List.cons_append, List.nil_append, List.mem_cons, Fld.n.injEq, List.not_mem_nil, or_false, false_or, reduceCtorEq] at h
  rcases h with rfl | rfl | rfl | rfl | rfl | rfl | rfl | rfl | rfl | rfl | rfl
  · exact st_slot s
  · exact st_length s
  · exact st_count s
  · exact st_win_min s
  · exact st_win_ring_last s
  · exact st_count_at s 0 (by omega)
  · exact st_count_at s 1 (by omega)
  · exact st_count_at s 2 (by omega)
  · exact st_count_at s 3 (by omega)
  · exact st_epochs_now_length s
  · exact st_epochs_next_length s
end Go.Proofs.YtpoaakdljpdkfaaDoor

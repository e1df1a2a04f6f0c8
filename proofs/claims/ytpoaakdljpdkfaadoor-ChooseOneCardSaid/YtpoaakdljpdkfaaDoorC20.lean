/- THE ITERATOR OVER A STATE's PARTS: its two helpers, hashes and nums; the closure; the contract. -/
import Derived.Test.YtpoaakdljpdkfaaDoorC19
import Derived.Test.YtpoaakdljpdkfaaDoorMix
import Derived.RangeFuncNested
import Derived.RangeFuncBound
import Derived.RangeFuncCalls
import Derived.RangeFuncLeaves
import Derived.Shelf.Abstract
import Derived.Shelf.RegionOpen
import Derived.OwnWalkIn
import Derived.TacticsInMore
import Derived.LoopNIn
import Derived.LoopIn
set_option linter.unusedSimpArgs false
set_option linter.unusedVariables false
namespace Go.Proofs.YtpoaakdljpdkfaaDoor
open Go.RowKit Go.Alm Go.Shelf
attribute [local go_sem] Oper.semAt_some
/-- a part: a digest, or a number, so many cells behind the state's begin -/
inductive Fld
  | h (o : Nat)
  | n (o : Nat)
def fldA (q : Nat) : Fld → Value
  | .h o => .pointer (some ⟨q, o, none⟩)
  | .n _ => .pointer none
def fldC (q : Nat) : Fld → Value
  | .h _ => .pointer none
  | .n o => .pointer (some ⟨q, o, none⟩)
def fldEnc (q : Nat) (x : Fld) : Array Value := #[fldA q x, fldC q x]
/-- the types of the cells that the iterator lays -/
def itType (t : TypeId) : Prop := t = 204 ∨ t = 205 ∨ t = 175 ∨ t = 176 ∨ t = 162
/-- what a round keeps: the iterator's own blocks -/
structure KpT (W W' : World) : Prop where
  size : W.heap.size ≤ W'.heap.size
  same : ∀ (k : Nat) (c : Array Value) (t : TypeId) (f : Nat × Nat), itType t → W.heap[k]? = some (Obj.cells c t f) → W'.heap[k]? = some (Obj.cells c t f)
theorem KpT.refl (W : World) : KpT W W := ⟨Nat.le_refl _, fun _ _ _ _ _ h => h⟩
theorem KpT.trans {A B C : World} (h : KpT A B) (k : KpT B C) : KpT A C := ⟨Nat.le_trans h.size k.size, fun i c t f ht hi => k.same i c t f ht (h.same i c t f ht hi)⟩
theorem KpT.of_below {W W' : World} (h : Below W.heap.size W W') : KpT W W' := ⟨h.size, fun k c t f _ hk => (h.block k (Array.getElem?_eq_some_iff.1 hk).1).trans hk⟩
theorem KpT.put (W : World) (l : Nat) (o o' : Obj) (h : W.heap[l]? = some o) (hc : o.isCells = false) : KpT W (W.putObj l o') :=
  ⟨(grownBy_putObj' W l o').size, fun k c t f _ hk => ((grownBy_putObj' W l o').block k (Array.getElem?_eq_some_iff.1 hk).1 (fun e => by
    cases e
    rw [h] at hk
    cases hk
    cases hc)).trans hk⟩
theorem cell_of_heap {W : World} {g i : Nat} {c : Array Value} {t : TypeId} {f : Nat × Nat} {v : Value} (h : W.heap[g]? = some (.cells c t f)) (hv : c[i]? = some v) : W.cell? ⟨g, i, none⟩ = some v := by
  simp [World.cell?, h, hv]
theorem loop_take {α β : Type} (f : α → β) (pre : List β) (os : List α) (k : Nat) (h : k < os.length) : pre ++ (os.take (k + 1)).map f = (pre ++ (os.take k).map f) ++ [f os[k]] := by
  rw [List.take_succ_eq_append_getElem h, List.map_append, ← List.append_assoc]; rfl

set_option maxRecDepth 100000 in
set_option maxHeartbeats 2000000 in
theorem hashes_in (n l q N : Nat) (S : List Fld) (J Jx : List Fld → World → Prop)
    (hY : ∀ pre x W1, x ∈ S → J pre W1 → pre.length < N → YieldAt Fence.wide (n - 1) Tryd.prog l (fldEnc q x) W1 fun e W' => (e = .returned (.bool true) ∧ J (pre ++ [x]) W' ∧ KpT W1 W') ∨ (e = .returned (.bool false) ∧ Jx (pre ++ [x]) W'))
    (os : List Nat) (pre : List Fld) (hS : ∀ o ∈ os, Fld.h o ∈ S) (hN : pre.length + os.length ≤ N) (hlen : os.length < 1000) (s c Y : Nat) (W : World)
    (hYb : W.heap[Y]? = some (.cells #[.func (.yield l) #[] #[]] 205 (0, 0))) (hs : W.heap[s]? = some (.cells (os.map fun o => Value.pointer (some ⟨q, o, none⟩)).toArray 175 (0, 0))) (h0 : J pre W) :
    CallsIn Fence.wide n Tryd.prog 125 #[.slice (some ⟨s, 0, none⟩) os.length c, .pointer (some ⟨Y, 0, none⟩)] W fun e W' =>
      (e = .returned (.bool true) ∧ J (pre ++ os.map Fld.h) W' ∧ KpT W W') ∨ (e = .returned (.bool false) ∧ ∃ pre', Jx pre' W') := by
  refine callsIn_of_wp Tryd.func125 rfl trivial ?_ rfl
  simp only [Tryd.ntmps125, List.size_toArray, List.length_cons, List.length_nil, Nat.reduceAdd, Nat.reduceSub, Array.replicate_succ, Array.replicate_zero, List.push_toArray, List.append_toArray, List.nil_append, List.cons_append]
  gi_wp2
  gi_loopw [8] (fun i wr => ∃ k : Nat, k ≤ os.length ∧ i = .int .i64 k ∧ J (pre ++ (os.take k).map Fld.h) wr ∧ KpT W wr)
    (fun i _ => os.length - (intOf i).toNat)
  case atStart => exact ⟨0, Nat.zero_le _, rfl, by simpa using h0, KpT.refl _⟩
  case round =>
    obtain ⟨k, hk, rfl, hJs, hkp⟩ := hrel
    by_cases hlt : k < os.length
    · have hcs : (wr.rowD s)[k]? = some (.pointer (some ⟨q, os[k], none⟩)) := by rw [rowD_of_heap (hkp.same _ _ _ _ (by simp [itType]) hs)]; simp [hlt]
      have hcY : wr.rowD Y = #[.func (.yield l) #[] #[]] := rowD_of_heap (hkp.same _ _ _ _ (by simp [itType]) hYb)
      obtain ⟨fn, tmps, assign, body, hy, hR⟩ := hY _ (Fld.h os[k]) wr (hS _ (List.getElem_mem hlt)) hJs (by simp; omega)
      have hnx := loop_take Fld.h pre os k hlt
      generalize os[k] = ok at hcs hy hnx hR
      dsimp only [fldEnc, fldA, fldC] at hy
      gi_wp2
      refine ⟨(fun h => by cases h), hR.mono ?_⟩
      rintro e W3 (⟨rfl, hJ3, hk3⟩ | ⟨rfl, hJx3⟩)
      · gi_wp2
        go_roundw
        case rel => exact ⟨k + 1, by omega, by simp, by rw [hnx]; exact hJ3, hkp.trans hk3⟩
        case measure => simp [intOf]; omega
      · gi_wp2
        go_ret
        exact .inr ⟨rfl, _, hJx3⟩
    · obtain rfl : k = os.length := by omega
      gi_wp2
      go_ret
      exact .inl ⟨rfl, by simpa using hJs, hkp⟩

set_option maxRecDepth 100000 in
set_option maxHeartbeats 2000000 in
theorem nums_in (n l q N : Nat) (S : List Fld) (J Jx : List Fld → World → Prop)
    (hY : ∀ pre x W1, x ∈ S → J pre W1 → pre.length < N → YieldAt Fence.wide (n - 1) Tryd.prog l (fldEnc q x) W1 fun e W' => (e = .returned (.bool true) ∧ J (pre ++ [x]) W' ∧ KpT W1 W') ∨ (e = .returned (.bool false) ∧ Jx (pre ++ [x]) W'))
    (os : List Nat) (pre : List Fld) (hS : ∀ o ∈ os, Fld.n o ∈ S) (hN : pre.length + os.length ≤ N) (hlen : os.length < 1000) (s c Y : Nat) (W : World)
    (hYb : W.heap[Y]? = some (.cells #[.func (.yield l) #[] #[]] 205 (0, 0))) (hs : W.heap[s]? = some (.cells (os.map fun o => Value.pointer (some ⟨q, o, none⟩)).toArray 176 (0, 0))) (h0 : J pre W) :
    CallsIn Fence.wide n Tryd.prog 126 #[.slice (some ⟨s, 0, none⟩) os.length c, .pointer (some ⟨Y, 0, none⟩)] W fun e W' =>
      (e = .returned (.bool true) ∧ J (pre ++ os.map Fld.n) W' ∧ KpT W W') ∨ (e = .returned (.bool false) ∧ ∃ pre', Jx pre' W') := by
  refine callsIn_of_wp Tryd.func126 rfl trivial ?_ rfl
  simp only [Tryd.ntmps126, List.size_toArray, List.length_cons, List.length_nil, Nat.reduceAdd, Nat.reduceSub, Array.replicate_succ, Array.replicate_zero, List.push_toArray, List.append_toArray, List.nil_append, List.cons_append]
  gi_wp2
  gi_loopw [8] (fun i wr => ∃ k : Nat, k ≤ os.length ∧ i = .int .i64 k ∧ J (pre ++ (os.take k).map Fld.n) wr ∧ KpT W wr)
    (fun i _ => os.length - (intOf i).toNat)
  case atStart => exact ⟨0, Nat.zero_le _, rfl, by simpa using h0, KpT.refl _⟩
  case round =>
    obtain ⟨k, hk, rfl, hJs, hkp⟩ := hrel
    by_cases hlt : k < os.length
    · have hcs : (wr.rowD s)[k]? = some (.pointer (some ⟨q, os[k], none⟩)) := by rw [rowD_of_heap (hkp.same _ _ _ _ (by simp [itType]) hs)]; simp [hlt]
      have hcY : wr.rowD Y = #[.func (.yield l) #[] #[]] := rowD_of_heap (hkp.same _ _ _ _ (by simp [itType]) hYb)
      obtain ⟨fn, tmps, assign, body, hy, hR⟩ := hY _ (Fld.n os[k]) wr (hS _ (List.getElem_mem hlt)) hJs (by simp; omega)
      have hnx := loop_take Fld.n pre os k hlt
      generalize os[k] = ok at hcs hy hnx hR
      dsimp only [fldEnc, fldA, fldC] at hy
      gi_wp2
      refine ⟨(fun h => by cases h), hR.mono ?_⟩
      rintro e W3 (⟨rfl, hJ3, hk3⟩ | ⟨rfl, hJx3⟩)
      · gi_wp2
        go_roundw
        case rel => exact ⟨k + 1, by omega, by simp, by rw [hnx]; exact hJ3, hkp.trans hk3⟩
        case measure => simp [intOf]; omega
      · gi_wp2
        go_ret
        exact .inr ⟨rfl, _, hJx3⟩
    · obtain rfl : k = os.length := by omega
      gi_wp2
      go_ret
      exact .inl ⟨rfl, by simpa using hJs, hkp⟩
end Go.Proofs.YtpoaakdljpdkfaaDoor

/- REGIONS THAT DRAW, WHERE TWO OPERATIONS THAT AREN'T QUIET STAND IN NO ORDER: both orders are walked. -/
import Derived.Test.YtpoaakdljpdkfaaDoorMix
set_option linter.unusedSimpArgs false
set_option linter.unusedVariables false
namespace Go
open Go.RowKit
theorem wpAny_ord {P : Program} {Q : Exit → Act → World → Prop} {a : Act} {w : World} {l : List Oper} (pl : List (Bool × Nat)) (C : World → Prop) (hC : ∀ W W', C W → Below W.heap.size W W' → C W') (h00 : C w)
    (hB : Region.ordB .any l.toArray pl = true) (h : ∀ W, Below w.heap.size w W → C W → wpMix P l.toArray C (fun a' W' => Q .normal a' W') (Region.picked l pl) a W) : wpAny P .any l.toArray Q l.toArray.size (Array.replicate l.toArray.size false) a { w with drawn := w.drawn + 1 } := by
  simp only [Region.ordB, Bool.and_eq_true, decide_eq_true_eq, List.all_eq_true] at hB
  obtain ⟨⟨⟨hsel, hlen⟩, hlt⟩, hgo⟩ := hB
  have hCd : C w.drew := hC _ _ h00 ((Below.refl _ _).drew)
  have H := wpAnyX_ord (md := .any) (mixes_plain P l.toArray C) hC (exo := mOpO P l.toArray) (fun {i o K a W} h0 h1 => by unfold mOp; simp only [h0]; exact h1) hsel pl (Array.replicate l.toArray.size false) a w.drew
    hlt hCd hgo (h _ ((Below.refl _ _).drew) hCd)
  rw [hlen] at H
  have sound : ∀ (f : Nat) (listed : Array Bool) (a' : Act) (W : World), wpAnyX .any l.toArray C (mOp P l.toArray) (fun a' W' => Q .normal a' W') f listed a' W → wpAny P .any l.toArray Q f listed a' W := by
    intro f
    induction f with
    | zero => exact fun listed a' W h => ⟨h.1, h.2 W (Below.refl _ _)⟩
    | succ f ih =>
      intro listed a' W hL
      refine ⟨fun h0 => absurd h0 hL.1, fun i hi => ?_⟩
      have h1 := hL.2 i hi W (Below.refl _ _)
      unfold mOp at h1
      unfold wpOp
      cases ho : l.toArray[i]? with
      | none => simp only [ho] at h1 ⊢; exact ih _ _ _ h1.2
      | some o =>
        simp only [ho] at h1 ⊢
        split
        · rename_i hw
          rw [if_pos hw] at h1
          left
          unfold Oper.calm at h1
          unfold Oper.wp
          generalize (execOp a'.eval o).run P W = r at h1 ⊢
          cases r with
          | halt x w' => simp only [Oper.calmUpon] at h1
          | ok x w' =>
            cases x <;> simp only [Oper.calmUpon] at h1 <;> simp only [Oper.upon]
            case value u => exact ih _ _ _ h1.2
            case skip => exact ih _ _ _ h1.2
            case enter f' args =>
              refine h1.mono ?_
              rintro e W'' ⟨v, rfl, h2⟩
              exact ih _ _ _ h2.2
        · rename_i hw
          rw [if_neg hw] at h1
          exact ih _ _ _ h1.2
  have := sound _ _ _ _ H
  simpa using this

/-- an operation that waits for one more -/
def Oper.late (o : Oper) (j : Nat) : Oper := { o with after := o.after.push ⟨j, .data⟩ }
def lateAt : List Oper → Nat → Nat → List Oper
  | [], _, _ => []
  | o :: l, 0, j => o.late j :: l
  | o :: l, i + 1, j => o :: lateAt l i j
theorem length_lateAt : ∀ (l : List Oper) (i j : Nat), (lateAt l i j).length = l.length
  | [], _, _ => rfl
  | o :: l, 0, j => rfl
  | o :: l, i + 1, j => by simp [lateAt, length_lateAt l i j]
theorem get_lateAt : ∀ (l : List Oper) (i j k : Nat), (lateAt l i j)[k]? = if k = i then (l[k]?).map (·.late j) else l[k]?
  | [], _, _, _ => by simp [lateAt]
  | o :: l, 0, j, 0 => by simp [lateAt]
  | o :: l, 0, j, k + 1 => by simp [lateAt]
  | o :: l, i + 1, j, 0 => by simp [lateAt]
  | o :: l, i + 1, j, k + 1 => by simpa [lateAt] using get_lateAt l i j k
theorem yielded_lateAt (l : List Oper) (i j : Nat) (tmps : Array Value) : yielded (lateAt l i j).toArray tmps = yielded l.toArray tmps := by
  funext k
  unfold yielded
  simp only [List.getElem?_toArray, get_lateAt]
  by_cases h : k = i
  · rw [if_pos h]
    cases l[k]? <;> rfl
  · rw [if_neg h]
theorem readyL {md : Region.Mode} {l : List Oper} {listed : Array Bool} {k : Nat} : k ∈ Region.ready md l.toArray listed ↔ ∃ o, l[k]? = some o ∧ listed.getD k true = false ∧ o.after.all (fun e => !Region.binds md e || listed.getD e.on false) = true := by
  unfold Region.ready
  simp only [List.mem_filter, List.mem_range, List.size_toArray, Bool.and_eq_true, Bool.not_eq_true', List.getElem?_toArray]
  constructor
  · rintro ⟨h1, h2, h3⟩
    rw [List.getElem?_eq_getElem h1] at h3 ⊢
    exact ⟨_, rfl, h2, by simpa using h3⟩
  · rintro ⟨o, h1, h2, h3⟩
    refine ⟨(List.getElem?_eq_some_iff.1 h1).1, h2, ?_⟩
    rw [h1]; simpa using h3
theorem ready_late {md : Region.Mode} {l : List Oper} {i j : Nat} {listed : Array Bool} {k : Nat} : k ∈ Region.ready md (lateAt l i j).toArray listed ↔ k ∈ Region.ready md l.toArray listed ∧ (k = i → listed.getD j false = true) := by
  rw [readyL, readyL]
  rw [get_lateAt]
  have hb : ∀ md : Region.Mode, Region.binds md ⟨j, .data⟩ = true := fun md => by cases md <;> rfl
  by_cases h : k = i
  · rw [if_pos h]
    constructor
    · rintro ⟨o, h1, h2, h3⟩
      obtain ⟨o', h4, rfl⟩ := Option.map_eq_some_iff.1 h1
      simp only [Oper.late, Array.all_push, hb, Bool.not_true, Bool.false_or, Bool.and_eq_true] at h3
      exact ⟨⟨o', h4, h2, h3.1⟩, fun _ => h3.2⟩
    · rintro ⟨⟨o, h1, h2, h3⟩, h4⟩
      refine ⟨o.late j, by rw [h1]; rfl, h2, ?_⟩
      simp only [Oper.late, Array.all_push, hb, Bool.not_true, Bool.false_or, Bool.and_eq_true]
      exact ⟨h3, h4 h⟩
  · rw [if_neg h]
    exact ⟨fun h1 => ⟨h1, fun e => absurd e h⟩, fun h1 => h1.1⟩
theorem wpOp_late {P : Program} {l : List Oper} {Q : Exit → Act → World → Prop} {i j k : Nat} {K : Act → World → Prop} {a : Act} {w : World} : wpOp P (lateAt l i j).toArray Q k K a w ↔ wpOp P l.toArray Q k K a w := by
  unfold wpOp
  rw [yielded_lateAt]
  simp only [List.getElem?_toArray, get_lateAt]
  by_cases h : k = i
  · rw [if_pos h]
    cases hk : l[k]? with
    | none => exact Iff.rfl
    | some o => exact Iff.rfl
  · rw [if_neg h]
/-- an operation that calls nothing -/
def Oper.callsNot (P : Program) (o : Oper) : Prop := ∀ (a : Act) (w : World), match (execOp a.eval o).run P w with | .ok (.enter _ _) _ => False | .ok (.row _ _) _ => False | _ => True
theorem callsNot_v {P : Program} {o : Oper} (s : Act → Sem Value) (h : ∀ a : Act, execOp a.eval o = (do pure (.value (← s a)))) : o.callsNot P := by
  intro a w
  rw [h, Sem.run_bind]
  cases (s a).run P w with
  | ok v w' => exact trivial
  | halt x w' => exact trivial
theorem callsNot_u {P : Program} {o : Oper} (s : Act → Sem Unit) (h : ∀ a : Act, execOp a.eval o = (do s a; pure .skip)) : o.callsNot P := by
  intro a w
  rw [h, Sem.run_bind]
  cases (s a).run P w with
  | ok v w' => exact trivial
  | halt x w' => exact trivial
theorem wpOp_both {P : Program} {ops : Array Oper} {Q : Exit → Act → World → Prop} {k : Nat} {K1 K2 K : Act → World → Prop} {a : Act} {w : World} (hn : ∀ o, ops[k]? = some o → o.callsNot P) (hK : ∀ a w, K1 a w → K2 a w → K a w) (h1 : wpOp P ops Q k K1 a w) (h2 : wpOp P ops Q k K2 a w) : wpOp P ops Q k K a w := by
  unfold wpOp at h1 h2 ⊢
  cases hk : ops[k]? with
  | none => rw [hk] at h1 h2; exact hK _ _ h1 h2
  | some o =>
    rw [hk] at h1 h2
    simp only at h1 h2 ⊢
    split
    · rename_i hw
      rw [if_pos hw] at h1 h2
      rcases h1 with h1 | h1
      · rcases h2 with h2 | h2
        · left
          have hc := hn o hk a w
          unfold Oper.wp at h1 h2 ⊢
          generalize (execOp a.eval o).run P w = r at h1 h2 hc ⊢
          cases r with
          | halt x w' => cases x <;> exact h1
          | ok x w' =>
            cases x <;> simp only [Oper.upon] at h1 h2 hc ⊢
            all_goals first | exact hK _ _ h1 h2 | exact h1 | exact hc.elim
        · exact .inr h2
      · exact .inr h1
    · rename_i hw
      rw [if_neg hw] at h1 h2
      exact hK _ _ h1 h2
theorem getD_set (listed : Array Bool) (k j : Nat) (d : Bool) (h : listed.getD j false = true) : (listed.setIfInBounds k true).getD j false = true := by
  simp only [Array.getD_eq_getD_getElem?, Array.getElem?_setIfInBounds] at h ⊢
  split
  · split <;> simp_all
  · exact h
/-- from the time when the one that is waited for is done, the two regions are one -/
theorem wpAny_late {P : Program} {md : Region.Mode} {l : List Oper} {Q : Exit → Act → World → Prop} {i j : Nat} : ∀ (f : Nat) (listed : Array Bool) (a : Act) (w : World), listed.getD j false = true → wpAny P md (lateAt l i j).toArray Q f listed a w → wpAny P md l.toArray Q f listed a w
  | 0, listed, a, w, hj, h => by
    refine ⟨?_, h.2⟩
    rw [List.eq_nil_iff_forall_not_mem]
    intro k hk
    have := h.1
    rw [List.eq_nil_iff_forall_not_mem] at this
    exact this k (ready_late.2 ⟨hk, fun _ => hj⟩)
  | f + 1, listed, a, w, hj, h => by
    refine ⟨fun h0 => h.1 ?_, fun k hk => ?_⟩
    · rw [List.eq_nil_iff_forall_not_mem] at h0 ⊢
      exact fun k hk => h0 k (ready_late.1 hk).1
    · have := wpOp_late.1 (h.2 k (ready_late.2 ⟨hk, fun _ => hj⟩))
      exact wpOp_mono (fun a w h1 => wpAny_late f _ a w (getD_set _ _ _ false hj) h1) this
theorem wpAny_two {P : Program} {md : Region.Mode} {l : List Oper} {Q : Exit → Act → World → Prop} {i j : Nat} (hij : i ≠ j) (hn : ∀ o ∈ l, o.callsNot P) : ∀ (f : Nat) (listed : Array Bool) (a : Act) (w : World), i < listed.size → j < listed.size →
    wpAny P md (lateAt l i j).toArray Q f listed a w → wpAny P md (lateAt l j i).toArray Q f listed a w → wpAny P md l.toArray Q f listed a w
  | 0, listed, a, w, _, _, h1, h2 => by
    refine ⟨?_, h1.2⟩
    have e1 := h1.1
    have e2 := h2.1
    rw [List.eq_nil_iff_forall_not_mem] at e1 e2 ⊢
    intro k hk
    by_cases h : k = i
    · exact e2 k (ready_late.2 ⟨hk, fun e => absurd (h.symm.trans e) hij⟩)
    · exact e1 k (ready_late.2 ⟨hk, fun e => absurd e h⟩)
  | f + 1, listed, a, w, hi, hj, h1, h2 => by
    refine ⟨fun h0 => h1.1 ?_, fun k hk => ?_⟩
    · rw [List.eq_nil_iff_forall_not_mem] at h0 ⊢
      exact fun k hk => h0 k (ready_late.1 hk).1
    · by_cases hki : k = i
      · subst hki
        have := wpOp_late.1 (h2.2 k (ready_late.2 ⟨hk, fun e => absurd e hij⟩))
        exact wpOp_mono (fun a w h3 => wpAny_late f _ a w (by simp [Array.getD_eq_getD_getElem?, hi]) h3) this
      · have e1 := wpOp_late.1 (h1.2 k (ready_late.2 ⟨hk, fun e => absurd e hki⟩))
        by_cases hkj : k = j
        · subst hkj
          exact wpOp_mono (fun a w h3 => wpAny_late f _ a w (by simp [Array.getD_eq_getD_getElem?, hj]) h3) e1
        · have e2 := wpOp_late.1 (h2.2 k (ready_late.2 ⟨hk, fun e => absurd e hkj⟩))
          refine wpOp_both (fun o ho => hn o (List.mem_of_getElem? (by simpa using ho))) (fun a w h3 h4 => wpAny_two hij hn f _ a w (by simpa using hi) (by simpa using hj) h3 h4) e1 e2
theorem wp_region_two {P : Program} {id : Nat} {Q : Exit → Act → World → Prop} {a : Act} {w : World} {l : List Oper} (i j : Nat) (hij : i ≠ j) (hi : i < l.length) (hj : j < l.length) (hm : P.follows .mixedOrders = true) (hn : ∀ o ∈ l, o.callsNot P)
    (h1 : wpAny P .any (lateAt l i j).toArray Q (lateAt l i j).toArray.size (Array.replicate (lateAt l i j).toArray.size false) a { w with drawn := w.drawn + 1 })
    (h2 : wpAny P .any (lateAt l j i).toArray Q (lateAt l j i).toArray.size (Array.replicate (lateAt l j i).toArray.size false) a { w with drawn := w.drawn + 1 }) : (Code.region id l.toArray true).wp P Q a w := by
  refine wp_region_any hm ?_
  simp only [List.size_toArray, length_lateAt] at h1 h2 ⊢
  exact wpAny_two hij hn _ _ _ _ (by simpa using hi) (by simpa using hj) h1 h2
end Go

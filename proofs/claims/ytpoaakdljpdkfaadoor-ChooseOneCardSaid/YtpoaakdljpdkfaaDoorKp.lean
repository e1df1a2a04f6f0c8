/- REGIONS THAT DRAW, OVER A CLASS OF WORLDS: the step in the form that the walks use. Owns blocks beside one older block that is written. -/
import Derived.Test.YtpoaakdljpdkfaaDoorMix
import Derived.Test.YtpoaakdljpdkfaaDoorC14
set_option linter.unusedSimpArgs false
set_option linter.unusedVariables false
namespace Go
open Go.RowKit
theorem wpGrowC_mono {P : Program} {ops : Array Oper} {C : World → Prop} {Q Q' : Act → Prop} (hq : ∀ a, Q a → Q' a) : ∀ {l : List Oper} {a : Act}, wpGrowC P ops C Q l a → wpGrowC P ops C Q' l a
  | [], a, h => hq a h
  | o :: rest, a, h => by
    unfold wpGrowC at h ⊢
    split
    · rename_i hw
      rw [if_pos hw] at h
      obtain ⟨v, h1, h2⟩ := h
      exact ⟨v, h1, wpGrowC_mono hq h2⟩
    · rename_i hw
      rw [if_neg hw] at h
      exact wpGrowC_mono hq h
section
variable {P : Program} {ops : Array Oper} {md : Region.Mode} {C : World → Prop} {m : Nat}
theorem wpAnyMC_lex0 (hC : ∀ W W', C W → Below W.heap.size W W' → C W') {g : Nat} {Lq : Act → World → Prop} {mid : List Oper} {W : World} (hsel : Region.noSelect ops = true) (hs : Region.sinkB md ops m = true) (hc : Region.chainB md ops m = true) (hn : m < ops.size) :
    ∀ (l : List Oper) (k : Nat) (listed : Array Bool) (a : Act), (∀ j, j < (l ++ mid).length → (l ++ mid)[j]? = ops[k + j]?) → k + (l ++ mid).length = m → HeadInv md ops m listed → C W →
    Region.lexHead md ops (mid.length + g) l.length k listed = true → wpGrowC P ops C (fun a' => wpMidC P C Lq mid a' W) l a →
    wpAnyMC P md ops C m (fun listed' a' W' => Region.seqB md ops g m listed' = true ∧ Lq a' W') (l.length + mid.length) listed a W
  | [], k, listed, a, hl, hk, inv, hW, hB, h => by
    simp only [List.length_nil, Region.lexHead] at hB
    rw [List.length_nil, Nat.zero_add]
    exact wpAnyMC_mid hn mid k listed a W hl (by simpa using hk) hB h
  | o :: l, k, listed, a, hl, hk, inv, hW, hB, h => by
    have h0 : ops[k]? = some o := by simpa using (hl 0 (by simp)).symm
    simp only [List.length_cons] at hB
    unfold Region.lexHead at hB
    simp only [Bool.and_eq_true] at hB
    obtain ⟨⟨hr, hf⟩, hB'⟩ := hB
    have hkn : k < m := by simp only [List.cons_append, List.length_cons] at hk; omega
    have hr' : k ∈ Region.ready md ops listed := by simpa using hr
    have hst : rOpC P ops C k (wpGrowC P ops C (fun a' => wpMidC P C Lq mid a' W) l) a := by unfold rOpC; simp only [h0]; exact h
    obtain ⟨v, hy, hK⟩ := yieldsC_of_rOpC h0 hst
    rw [List.length_cons, show l.length + 1 + mid.length = (l.length + mid.length) + 1 by omega]
    exact wpAnyMC_first hC h0 (Region.noSelect_spec hsel) hs hc hn hkn (fun listed' a' W' hL => seqB_ready hL.1) (l.length + mid.length) listed a W inv hW (Region.free_spec h0 hf) hr' hy
      (wpAnyMC_lex0 hC hsel hs hc hn l (k + 1) _ _ (fun j hj => by have := hl (j + 1) (by simp only [List.cons_append, List.length_cons] at *; omega); simpa [Nat.add_assoc, Nat.add_comm 1 j] using this) (by simp only [List.cons_append, List.length_cons] at hk; omega) (inv.set hr' hkn) hW hB' hK)
end
theorem wp_region_midD {P : Program} {id : Nat} {Q : Exit → Act → World → Prop} {a : Act} {w : World} {l : List Oper} (n q : Nat) (C : World → Prop) (hC : ∀ W W', C W → Below W.heap.size W W' → C W') (h00 : C { w with drawn := w.drawn + 1 }) (hm : P.follows .mixedOrders = true)
    (hB : Region.midB .any l.toArray n q = true)
    (h : wpGrowC P l.toArray C (fun a' => ∀ W, Below w.heap.size w W → C W → wpMidC P C (fun a'' W' => wpList P l.toArray Q (l.drop (n + q)) a'' W') ((l.drop n).take q) a' W) (l.take n) a) : (Code.region id l.toArray true).wp P Q a w := by
  simp only [Region.midB, Bool.and_eq_true, decide_eq_true_eq] at hB
  obtain ⟨⟨⟨⟨hsel, hn⟩, hs⟩, hc⟩, hlex⟩ := hB
  have hn' : n + q < l.length := by simpa using hn
  have htl : (l.take n).length = n := by simp; omega
  have hql : ((l.drop n).take q).length = q := by simp; omega
  have hdl : (l.drop (n + q)).length = l.toArray.size - (n + q) := by simp
  have hcat : l.take n ++ (l.drop n).take q = l.take (n + q) := by rw [List.take_add]
  have inv0 : HeadInv .any l.toArray (n + q) (Array.replicate l.toArray.size false) :=
    ⟨by simp, fun j oj _ hl => (by rw [getD_replicate_false] at hl; cases hl), fun t _ ht => getD_in (by simpa using ht) (getD_replicate_false _ _)⟩
  have H := wpAnyMC_lex0 (P := P) (C := C) (md := .any) (m := n + q) (g := l.toArray.size - (n + q)) (mid := (l.drop n).take q) hC hsel hs hc hn (l.take n) 0 _ a (W := { w with drawn := w.drawn + 1 }) (fun j hj => by
    rw [hcat] at hj ⊢
    have hj' : j < n + q := by simp at hj; omega
    simp [hj']) (by rw [hcat]; simp; omega) inv0 h00 (by rw [htl, hql]; exact hlex) (wpGrowC_mono (fun a' h => h _ ((Below.refl _ _).drew) h00) h)
  rw [htl, hql] at H
  refine wp_region_any hm ?_
  have sound : ∀ (f : Nat) (listed : Array Bool) (a' : Act) (W : World),
      wpAnyMC P .any l.toArray C (n + q) (fun listed' a' W' => Region.seqB .any l.toArray (l.toArray.size - (n + q)) (n + q) listed' = true ∧ wpList P l.toArray Q (l.drop (n + q)) a' W') f listed a' W →
      wpAny P .any l.toArray Q (f + (l.toArray.size - (n + q))) listed a' W := by
    intro f
    induction f with
    | zero =>
      intro listed a' W hL
      obtain ⟨hseq, hrun⟩ := hL W (Below.refl _ _)
      rw [Nat.zero_add]
      have := wpAny_of_seq (P := P) (md := .any) (Q' := Q) (l.drop (n + q)) (n + q) listed _ W (fun j => by simp [List.getElem?_drop]) (by rw [hdl]; exact hseq) hrun
      rw [hdl] at this
      simpa using this
    | succ f ih =>
      intro listed a' W hL
      rw [show f + 1 + (l.toArray.size - (n + q)) = (f + (l.toArray.size - (n + q))) + 1 by omega]
      refine ⟨fun h0 => absurd h0 hL.1, fun i hi => ?_⟩
      have h1 := (hL.2 i hi).2 W (Below.refl _ _)
      unfold mOp at h1
      unfold wpOp
      cases ho : l.toArray[i]? with
      | none => simp only [ho] at h1 ⊢; exact ih _ _ _ h1.2
      | some o =>
        simp only [ho] at h1 ⊢
        split
        · rename_i hw
          rw [if_pos hw] at h1
          left
          unfold Oper.calm at h1
          unfold Oper.wp
          generalize (execOp a'.eval o).run P W = r at h1 ⊢
          cases r with
          | halt x w' => simp only [Oper.calmUpon] at h1
          | ok x w' =>
            cases x <;> simp only [Oper.calmUpon] at h1 <;> simp only [Oper.upon]
            case value u => exact ih _ _ _ h1.2
            case skip => exact ih _ _ _ h1.2
            case enter f' args =>
              refine h1.mono ?_
              rintro e W'' ⟨v, rfl, h2⟩
              exact ih _ _ _ h2.2
        · rename_i hw
          rw [if_neg hw] at h1
          exact ih _ _ _ h1.2
  have := sound (n + q) _ a { w with drawn := w.drawn + 1 } H
  rw [show n + q + (l.toArray.size - (n + q)) = l.toArray.size by omega] at this
  exact this
section
variable {P : Program} {ops : Array Oper} {C : World → Prop}
theorem wpGrowC_y {Q : Act → Prop} {a : Act} {o : Oper} {rest : List Oper} (hg : o.guard = none)
    (h : ∀ K : Act → Prop, (∀ a, wpGrowC P ops C Q rest a → K a) → ∃ v, (∀ W, C W → o.growAt P a W v) ∧ K (a.put o.dst v)) : wpGrowC P ops C Q (o :: rest) a := by
  obtain ⟨v, h1, h2⟩ := h _ (fun _ h => h)
  unfold wpGrowC
  rw [if_pos (by simp [Region.wanted, hg])]
  exact ⟨v, h1, h2⟩
end
section
variable {w W W' : World} {g : Nat} {c : Array Value} {L : List (Nat × Array Value)}
theorem Owns.toK (h : Owns w W L) (hg : g < w.heap.size) : OwnK g (w.rowD g) w W L := ⟨Kept.of_below hg h.below, rowD_congr (h.below.block g hg), h.blocks⟩
theorem OwnK.call (h : OwnK g c w W L) (hg : g < w.heap.size) (hb : Below W.heap.size W W') : OwnK g c w W' L := by
  refine ⟨h.kept.below hg hb, (rowD_congr (hb.block g (Nat.lt_of_lt_of_le hg h.kept.size))).trans h.row, fun p hp => ?_⟩
  obtain ⟨h1, h2, h3, h4⟩ := h.blocks p hp
  exact ⟨h1, Nat.lt_of_lt_of_le h2 hb.size, by rw [rowD_congr (hb.block _ h2)]; exact h3, fun i => by rw [hb.frozen (p := ⟨p.1, i, none⟩) h2]; exact h4 i⟩
theorem OwnK.alloc (h : OwnK g c w W L) (hg : g < w.heap.size) (c1 : Array Value) (t : TypeId) : OwnK g c w (W.alloc (.cells c1 t)) (L ++ [(W.heap.size, c1)]) := by
  have h' := h.call hg ((Below.refl W.heap.size W).alloc (Nat.le_refl _) (.cells c1 t))
  refine ⟨h'.kept, h'.row, fun p hp => ?_⟩
  rcases List.mem_append.1 hp with hp | hp
  · exact h'.blocks p hp
  · simp only [List.mem_singleton] at hp
    subst hp
    exact ⟨h.kept.size, by simp, rowD_alloc_new _ _ _ _ rfl, fun i => World.frozen?_alloc_at _ _ _ _ rfl⟩
/-- a store into the older block -/
theorem OwnK.set (h : OwnK g c w W L) (hg : g < w.heap.size) (o : Nat) (vs : List Value) : OwnK g (spliceL c o vs) w (W.setCells g o vs) L := by
  refine ⟨Kept.setCells vs o _ h.kept, by rw [rowD_setCells_same, h.row], fun p hp => ?_⟩
  obtain ⟨h1, h2, h3, h4⟩ := h.blocks p hp
  exact ⟨h1, by rw [size_setCells]; exact h2, by rw [rowD_setCells_other g _ (by omega)]; exact h3, fun j => by rw [World.frozen?_setCells]; exact h4 j⟩
theorem OwnK.set1 (h : OwnK g c w W L) (hg : g < w.heap.size) (o : Nat) (v : Value) : OwnK g (c.setIfInBounds o v) w (W.setCell ⟨g, o, none⟩ v) L := h.set hg o [v]
theorem OwnK.lt (h : OwnK g c w W L) (hg : g < w.heap.size) : g < W.heap.size := Nat.lt_of_lt_of_le hg h.kept.size
theorem OwnK.fr (h : OwnK g c w W L) (hf : ∀ i, w.frozen? ⟨g, i, none⟩ = false) : ∀ i, W.frozen? ⟨g, i, none⟩ = false := fun i => (h.kept.frozen i).trans (hf i)
theorem OwnK.at1 {b d} (h : OwnK g c w W ((b, d) :: L)) : w.heap.size ≤ b ∧ b < W.heap.size ∧ W.rowD b = d ∧ ∀ i, W.frozen? ⟨b, i, none⟩ = false := h.blocks (b, d) (by simp)
theorem OwnK.at2 {b d p} (h : OwnK g c w W (p :: (b, d) :: L)) : w.heap.size ≤ b ∧ b < W.heap.size ∧ W.rowD b = d ∧ ∀ i, W.frozen? ⟨b, i, none⟩ = false := h.blocks (b, d) (by simp)
/-- behind a call that wrote one of the own blocks -/
theorem Owns.put (h : Owns w W L) {g : Nat} {c' : Array Value} (hg : w.heap.size ≤ g) (hgW : g < W.heap.size) (hk : Kept g W W') (hr : W'.rowD g = c') : Owns w W' (L.map fun p => if p.1 = g then (p.1, c') else p) := h.kept hg hgW hk hr
end
end Go

/- A REGION's LAST OPERATION, AND WHAT STANDS BEHIND IT. -/
import Derived.Test.YtpoaakdljpdkfaaDoorReg
set_option linter.unusedSimpArgs false
set_option linter.unusedVariables false
namespace Go
open Go.RowKit
section
variable {P : Program} {ops : Array Oper} {md : Region.Mode} {w0 : World} {B n : Nat}

def wpAnyR (P : Program) (md : Region.Mode) (ops : Array Oper) (w0 : World) (n : Nat) (L : Array Bool → Act → Prop) : Nat → Array Bool → Act → Prop
  | 0, listed, a => L listed a
  | f + 1, listed, a =>
    Region.ready md ops listed ≠ [] ∧ ∀ i ∈ Region.ready md ops listed, i < n ∧ rOp P ops w0 i (wpAnyR P md ops w0 n L f (listed.setIfInBounds i true)) a

theorem wpAnyR_first {i : Nat} {oi : Oper} {v : Value} {L : Array Bool → Act → Prop} (hi : ops[i]? = some oi) (hsel : ∀ (j : Nat) (o : Oper) cs b, ops[j]? = some o → o.op ≠ .select cs b)
    (hs : Region.sinkB md ops n = true) (hc : Region.chainB md ops n = true) (hn : n < ops.size) (hin : i < n)
    (hdone : ∀ listed a, L listed a → ∀ j ∈ Region.ready md ops listed, n ≤ j) :
    ∀ (f : Nat) (listed : Array Bool) (a : Act), HeadInv md ops n listed →
      (∀ j oj, ops[j]? = some oj → j ≠ i → listed.getD j true = false → (∀ e ∈ oj.after, Region.binds md e = true → e.on ≠ i) → oi.apart ops oj = true) →
      i ∈ Region.ready md ops listed → YieldsG P ops w0 oi v a →
      wpAnyR P md ops w0 n L f (listed.setIfInBounds i true) (a.put oi.dst v) → wpAnyR P md ops w0 n L (f + 1) listed a := by
  intro f
  induction f with
  | zero =>
    intro listed a inv _ hr hy H
    have hun := (mem_ready.1 hr).1
    refine ⟨fun h => (by rw [h] at hr; cases hr), fun j hj => ?_⟩
    have hjn : j < n := by
      rcases Nat.lt_or_ge j n with h | h
      · exact h
      · exact absurd hj (tail_waits hs hc hn inv _ i rfl hin hun j h)
    refine ⟨hjn, ?_⟩
    by_cases hji : j = i
    · subst hji; exact hy.rOp hi H
    · have := hdone _ _ H j (ready_mono hj hji)
      omega
  | succ f ih =>
    intro listed a inv hfree hr hy H
    have hun := (mem_ready.1 hr).1
    refine ⟨fun h => (by rw [h] at hr; cases hr), fun j hj => ?_⟩
    have hjn : j < n := by
      rcases Nat.lt_or_ge j n with h | h
      · exact h
      · exact absurd hj (tail_waits hs hc hn inv _ i rfl hin hun j h)
    refine ⟨hjn, ?_⟩
    by_cases hji : j = i
    · subst hji; exact hy.rOp hi H
    · have h1 := (H.2 j (ready_mono hj hji)).2
      obtain ⟨hjun, oj, hoj, hall⟩ := mem_ready.1 hj
      have hnot : ∀ e ∈ oj.after, Region.binds md e = true → e.on ≠ i := fun e he hb heq => by
        have h1 := hall e he hb
        rw [heq, getD_both hun] at h1
        cases h1
      have h2 := rOp_put hoj (hfree j oj hoj hji hjun hnot) (fun cs b => hsel i oi cs b hi) (fun cs b => hsel j oj cs b hoj) hy h1
      have hfree' : ∀ k ok, ops[k]? = some ok → k ≠ i → (listed.setIfInBounds j true).getD k true = false →
          (∀ e ∈ ok.after, Region.binds md e = true → e.on ≠ i) → oi.apart ops ok = true := fun k ok hk hki hun hno => by
        refine hfree k ok hk hki ?_ hno
        by_cases hjk : j = k
        · subst hjk; exact hjun
        · rw [getD_set_ne true hjk] at hun; exact hun
      refine rOp_mono (fun a' h3 => ih (listed.setIfInBounds j true) a' (inv.set hj hjn) hfree' (ready_mono hr (Ne.symm hji)) h3.1 ?_) h2
      rw [Array.setIfInBounds_comm _ _ hji]
      exact h3.2

theorem wpAnyR_lex {g : Nat} {Lq : Act → Prop} (hsel : Region.noSelect ops = true) (hs : Region.sinkB md ops n = true) (hc : Region.chainB md ops n = true) (hn : n < ops.size) :
    ∀ (l : List Oper) (k : Nat) (listed : Array Bool) (a : Act), (∀ j, j < l.length → l[j]? = ops[k + j]?) → k + l.length = n → HeadInv md ops n listed →
    Region.lexHead md ops g l.length k listed = true → wpGrow P ops w0 Lq l a →
    wpAnyR P md ops w0 n (fun listed' a' => Region.seqB md ops g n listed' = true ∧ Lq a') l.length listed a
  | [], k, listed, a, _, hk, inv, hB, h => by
    have : k = n := by simpa using hk
    subst this
    simp only [List.length_nil, Region.lexHead] at hB
    exact ⟨hB, h⟩
  | o :: l, k, listed, a, hl, hk, inv, hB, h => by
    have h0 : ops[k]? = some o := by simpa using (hl 0 (by simp)).symm
    simp only [List.length_cons] at hB
    unfold Region.lexHead at hB
    simp only [Bool.and_eq_true] at hB
    obtain ⟨⟨hr, hf⟩, hB'⟩ := hB
    have hkn : k < n := by simp only [List.length_cons] at hk; omega
    have hr' : k ∈ Region.ready md ops listed := by simpa using hr
    have hst : rOp P ops w0 k (wpGrow P ops w0 Lq l) a := by unfold rOp; simp only [h0]; exact h
    obtain ⟨v, hy, hK⟩ := yieldsG_of_rOp h0 hst
    exact wpAnyR_first h0 (Region.noSelect_spec hsel) hs hc hn hkn (fun listed' a' hL => seqB_ready hL.1) l.length listed a inv (Region.free_spec h0 hf) hr' hy
      (wpAnyR_lex hsel hs hc hn l (k + 1) _ _ (fun j hj => by have := hl (j + 1) (by simp; omega); simpa [Nat.add_assoc, Nat.add_comm 1 j] using this) (by simp only [List.length_cons] at hk; omega) (inv.set hr' hkn) hB' hK)
end

/-- A REGION THAT DRAWS: n quiet operations (calls may lay blocks), and what is done behind them all. -/
theorem wp_region_ext_tail {P : Program} {id : Nat} {Q : Exit → Act → World → Prop} {a : Act} {w : World} {l : List Oper} (n : Nat) (hm : P.follows .mixedOrders = true)
    (hB : Region.lexTailB .any l.toArray n = true)
    (h : wpGrow P l.toArray w (fun a' => ∀ W, Below w.heap.size w W → wpList P l.toArray Q (l.drop n) a' W) (l.take n) a) : (Code.region id l.toArray true).wp P Q a w := by
  simp only [Region.lexTailB, Bool.and_eq_true, decide_eq_true_eq] at hB
  obtain ⟨⟨⟨⟨hsel, hn⟩, hs⟩, hc⟩, hlex⟩ := hB
  have hn' : n < l.length := by simpa using hn
  have htl : (l.take n).length = n := by simp; omega
  have hdl : (l.drop n).length = l.toArray.size - n := by simp
  have inv0 : HeadInv .any l.toArray n (Array.replicate l.toArray.size false) :=
    ⟨by simp, fun j oj _ hl => (by rw [getD_replicate_false] at hl; cases hl), fun t _ ht => getD_in (by simpa using ht) (getD_replicate_false _ _)⟩
  have H := wpAnyR_lex (P := P) (w0 := w) (md := .any) (g := l.toArray.size - n) hsel hs hc hn (l.take n) 0 _ a (fun j hj => by
    have hj' : j < n := by rw [htl] at hj; exact hj
    simp [hj']) (by simpa using htl) inv0 (by rw [htl]; exact hlex) h
  rw [htl] at H
  refine wp_region_any hm ?_
  have sound : ∀ (f : Nat) (listed : Array Bool) (a' : Act) (W : World), Below w.heap.size w W →
      wpAnyR P .any l.toArray w n (fun listed' a' => Region.seqB .any l.toArray (l.toArray.size - n) n listed' = true ∧ ∀ W, Below w.heap.size w W → wpList P l.toArray Q (l.drop n) a' W) f listed a' →
      wpAny P .any l.toArray Q (f + (l.toArray.size - n)) listed a' W := by
    intro f
    induction f with
    | zero =>
      intro listed a' W hb hL
      obtain ⟨hseq, hrun⟩ := hL
      rw [Nat.zero_add]
      have := wpAny_of_seq (P := P) (md := .any) (Q' := Q) (l.drop n) n listed _ W (fun j => by simp [List.getElem?_drop]) (by rw [hdl]; exact hseq) (hrun W hb)
      rw [hdl] at this
      simpa using this
    | succ f ih =>
      intro listed a' W hb hL
      rw [show f + 1 + (l.toArray.size - n) = (f + (l.toArray.size - n)) + 1 by omega]
      refine ⟨fun h0 => absurd h0 hL.1, fun i hi => ?_⟩
      have h1 := (hL.2 i hi).2
      unfold rOp at h1
      unfold wpOp
      cases ho : l.toArray[i]? with
      | none => simp only [ho] at h1 ⊢; exact ih _ _ _ hb h1
      | some o =>
        simp only [ho] at h1 ⊢
        split
        · rename_i hw
          rw [if_pos hw] at h1
          left
          obtain ⟨v, h3, h4⟩ := h1
          obtain ⟨g, hg'⟩ := World.ext_of hb
          have h5 := h3 g
          rw [← hg'] at h5
          unfold Oper.growAt at h5
          unfold Oper.wp
          generalize (execOp a'.eval o).run P W = r at h5 ⊢
          cases r with
          | halt x w' => simp only [Oper.growUpon] at h5
          | ok x w' =>
            cases x <;> simp only [Oper.growUpon] at h5 <;> simp only [Oper.upon]
            case value u => obtain ⟨rfl, rfl⟩ := h5; exact ih _ _ _ hb h4
            case skip => obtain ⟨rfl, rfl⟩ := h5; exact ih _ _ _ hb h4
            case enter f' args =>
              obtain ⟨rfl, h6⟩ := h5
              refine h6.mono ?_
              rintro e W'' ⟨rfl, hb2⟩
              exact ih _ _ _ (hb.trans (hb2.mono hb.size)) h4
        · rename_i hw
          rw [if_neg hw] at h1
          exact ih _ _ _ hb h1
  have := sound n _ a { w with drawn := w.drawn + 1 } ((Below.refl _ _).drew) H
  rw [show n + (l.toArray.size - n) = l.toArray.size by omega] at this
  exact this
theorem wp_region_ext_new {P : Program} {id : Nat} {Q : Exit → Act → World → Prop} {a : Act} {w : World} {l : List Oper} (n : Nat) (T : TypeId) (z : Value) (d : Tmp) (hm : P.follows .mixedOrders = true)
    (hB : Region.lexTailB .any l.toArray (n + 1) = true) (hop : (l[n]?).map (fun o => (o.op matches .alloc _, o.guard.isNone)) = some (true, true)) (hT : (l[n]?).map (fun o => o.op) = some (.alloc T)) (hd : (l[n]?).bind (·.dst) = some d)
    (hz : ∀ W, (zeroValue T).run P W = .ok z W)
    (h : wpGrow P l.toArray w (fun a' => ∀ p W, w.heap.size ≤ p → Below w.heap.size w W → W.heap[p]? = some (.cells z.cells T (0, 0)) →
      wpList P l.toArray Q (l.drop (n + 1)) (a'.put (some d) (.pointer (some ⟨p, 0, none⟩))) W) (l.take n) a) : (Code.region id l.toArray true).wp P Q a w :=
  wp_region_ext_alloc n T z hm hB hop hT hz (by rw [hd]; exact h)
theorem Owns.fresh {w W W1 : World} {L : List (Nat × Array Value)} {p : Nat} {c : Array Value} {T : TypeId} (h : Owns w W L) (hp : W.heap.size ≤ p) (hb : Below W.heap.size W W1) (h6 : W1.heap[p]? = some (.cells c T (0, 0))) : Owns w W1 (L ++ [(p, c)]) := by
  refine ⟨h.below.trans (hb.mono h.below.size), fun q hq => ?_⟩
  rcases List.mem_append.1 hq with hq | hq
  · exact (h.call hb).blocks q hq
  · simp only [List.mem_singleton] at hq
    subst hq
    refine ⟨Nat.le_trans h.below.size hp, (Array.getElem?_eq_some_iff.1 h6).1, rowD_of_heap h6, fun i => ?_⟩
    simp [World.frozen?, h6]
end Go

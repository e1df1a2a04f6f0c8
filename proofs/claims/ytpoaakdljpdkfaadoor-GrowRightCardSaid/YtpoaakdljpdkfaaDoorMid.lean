/- OPERATIONS THAT STAND ALONE IN THE MIDST OF A REGION. -/
import Derived.Test.YtpoaakdljpdkfaaDoorTail
set_option linter.unusedSimpArgs false
set_option linter.unusedVariables false
namespace Go
open Go.RowKit
section
variable {P : Program} {ops : Array Oper} {md : Region.Mode} {w0 : World} {m : Nat}

/-- an operation that ends well: a value, nothing, or a call that returns -/
def Oper.calmUpon (P : Program) (o : Oper) (a : Act) (K : Act → World → Prop) : Result Next → Prop
  | .ok (.value v) w' => K (a.put o.dst v) w'
  | .ok .skip w' => K (a.put o.dst undef) w'
  | .ok (.enter f args) w' => Calls P f args w' fun e w'' => ∃ v, e = .returned v ∧ K (a.put o.dst v) w''
  | _ => False
def Oper.calm (P : Program) (o : Oper) (a : Act) (W : World) (K : Act → World → Prop) : Prop := o.calmUpon P a K ((execOp a.eval o).run P W)
def mOp (P : Program) (ops : Array Oper) (i : Nat) (K : Act → World → Prop) (a : Act) (W : World) : Prop :=
  match ops[i]? with
  | none => K a W
  | some o => if Region.wanted o (yielded ops a.tmps) then o.calm P a W K else K (a.put o.dst undef) W
theorem Oper.calm_mono {o : Oper} {a : Act} {W : World} {K K' : Act → World → Prop} (h : ∀ a w, K a w → K' a w) (hh : o.calm P a W K) : o.calm P a W K' := by
  unfold Oper.calm at *
  generalize (execOp a.eval o).run P W = r at *
  cases r with
  | ok n w' =>
    cases n <;> simp only [Oper.calmUpon] at hh ⊢
    · exact h _ _ hh
    · exact h _ _ hh
    · exact hh.mono fun e w'' ⟨v, he, hk⟩ => ⟨v, he, h _ _ hk⟩
  | halt x w' => simp only [Oper.calmUpon] at hh
theorem mOp_mono {i : Nat} {a : Act} {W : World} {K K' : Act → World → Prop} (h : ∀ a w, K a w → K' a w) (hh : mOp P ops i K a W) : mOp P ops i K' a W := by
  unfold mOp at *
  split
  · exact h _ _ (by simpa [*] using hh)
  · rename_i o ho
    simp only [ho] at hh
    split
    · rename_i hw; simp only [hw, if_true] at hh; exact Oper.calm_mono h hh
    · rename_i hw; simp only [hw] at hh; exact h _ _ hh
theorem mOp_put {j : Nat} {oi oj : Oper} {v : Value} (hj : ops[j]? = some oj) (hap : oi.apart ops oj = true)
    (hsi : ∀ cs b, oi.op ≠ .select cs b) (hsj : ∀ cs b, oj.op ≠ .select cs b) {K : Act → World → Prop} {a : Act} {W : World}
    (hy : YieldsG P ops w0 oi v a) (h : mOp P ops j K (a.put oi.dst v) W) :
    mOp P ops j (fun a' w' => YieldsG P ops w0 oi v a' ∧ K (a'.put oi.dst v) w') a W := by
  obtain ⟨h1, h2, h3⟩ := Oper.apart_spec hap
  have keep : ∀ (a : Act), YieldsG P ops w0 oi v a → ∀ u, YieldsG P ops w0 oi v (a.put oj.dst u) := fun a hy u =>
    hy.of_same (execOp_put oi hsi a oj.dst u h3) (wanted_put oi a oj.dst u h3)
  unfold mOp at *
  simp only [hj] at *
  rw [wanted_put oj a oi.dst v h1] at h
  split
  · rename_i hw
    simp only [hw, if_true] at h
    unfold Oper.calm at *
    rw [execOp_put oj hsj a oi.dst v h1] at h
    generalize (execOp a.eval oj).run P W = r at *
    cases r with
    | ok n w' =>
      cases n <;> simp only [Oper.calmUpon] at h ⊢
      case value u => exact ⟨keep a hy u, by rw [← Act.put_comm a v u h2]; exact h⟩
      case skip => exact ⟨keep a hy _, by rw [← Act.put_comm a v undef h2]; exact h⟩
      case enter f args => exact h.mono fun e w'' ⟨u, he, hk⟩ => ⟨u, he, keep a hy u, by rw [← Act.put_comm a v u h2]; exact hk⟩
    | halt x w' => simp only [Oper.calmUpon] at h
  · rename_i hw
    simp only [hw] at h
    exact ⟨keep a hy _, by rw [← Act.put_comm a v undef h2]; exact h⟩

/-- every order of the operations below m; ahead of each of them the memory may have grown -/
def wpAnyM (P : Program) (md : Region.Mode) (ops : Array Oper) (w0 : World) (m : Nat) (L : Array Bool → Act → World → Prop) : Nat → Array Bool → Act → World → Prop
  | 0, listed, a, W => ∀ W', Below W.heap.size W W' → L listed a W'
  | f + 1, listed, a, W =>
    Region.ready md ops listed ≠ [] ∧ ∀ i ∈ Region.ready md ops listed, i < m ∧ ∀ W', Below W.heap.size W W' →
      mOp P ops i (fun a' W'' => Below w0.heap.size w0 W'' ∧ wpAnyM P md ops w0 m L f (listed.setIfInBounds i true) a' W'') a W'
theorem wpAnyM_grow {L : Array Bool → Act → World → Prop} : ∀ {f : Nat} {listed : Array Bool} {a : Act} {W W1 : World}, Below W.heap.size W W1 → wpAnyM P md ops w0 m L f listed a W → wpAnyM P md ops w0 m L f listed a W1
  | 0, _, _, _, _, hb, h => fun W' hb' => h W' (hb.trans (hb'.mono hb.size))
  | f + 1, _, _, _, _, hb, h => ⟨h.1, fun i hi => ⟨(h.2 i hi).1, fun W' hb' => (h.2 i hi).2 W' (hb.trans (hb'.mono hb.size))⟩⟩

theorem mOp_quiet {i : Nat} {oi : Oper} {v : Value} {a : Act} {W : World} {K : Act → World → Prop} (hi : ops[i]? = some oi) (hy : YieldsG P ops w0 oi v a) (hb : Below w0.heap.size w0 W) (h : ∀ W', Below W.heap.size W W' → K (a.put oi.dst v) W') : mOp P ops i K a W := by
  unfold mOp
  simp only [hi]
  rcases hy with ⟨hw, hv⟩ | ⟨hw, rfl⟩
  · simp only [hw, if_true]
    obtain ⟨g, hg⟩ := World.ext_of hb
    have h5 := hv g
    rw [← hg] at h5
    unfold Oper.growAt at h5
    unfold Oper.calm
    generalize (execOp a.eval oi).run P W = r at h5 ⊢
    cases r with
    | halt x w' => simp only [Oper.growUpon] at h5
    | ok x w' =>
      cases x <;> simp only [Oper.growUpon] at h5 <;> simp only [Oper.calmUpon]
      case value u => obtain ⟨rfl, rfl⟩ := h5; exact h _ (Below.refl _ _)
      case skip => obtain ⟨rfl, rfl⟩ := h5; exact h _ (Below.refl _ _)
      case enter f' args => obtain ⟨rfl, h6⟩ := h5; exact h6.mono fun e w'' ⟨he, hb2⟩ => ⟨v, he, h _ hb2⟩
  · simp only [hw, Bool.false_eq_true, if_false]
    exact h _ (Below.refl _ _)

theorem wpAnyM_first {i : Nat} {oi : Oper} {v : Value} {L : Array Bool → Act → World → Prop} (hi : ops[i]? = some oi) (hsel : ∀ (j : Nat) (o : Oper) cs b, ops[j]? = some o → o.op ≠ .select cs b)
    (hs : Region.sinkB md ops m = true) (hc : Region.chainB md ops m = true) (hn : m < ops.size) (hin : i < m)
    (hdone : ∀ listed a W, L listed a W → ∀ j ∈ Region.ready md ops listed, m ≤ j) :
    ∀ (f : Nat) (listed : Array Bool) (a : Act) (W : World), HeadInv md ops m listed → Below w0.heap.size w0 W →
      (∀ j oj, ops[j]? = some oj → j ≠ i → listed.getD j true = false → (∀ e ∈ oj.after, Region.binds md e = true → e.on ≠ i) → oi.apart ops oj = true) →
      i ∈ Region.ready md ops listed → YieldsG P ops w0 oi v a →
      wpAnyM P md ops w0 m L f (listed.setIfInBounds i true) (a.put oi.dst v) W → wpAnyM P md ops w0 m L (f + 1) listed a W := by
  intro f
  induction f with
  | zero =>
    intro listed a W inv hW _ hr hy H
    have hun := (mem_ready.1 hr).1
    refine ⟨fun h => (by rw [h] at hr; cases hr), fun j hj => ?_⟩
    have hjn : j < m := by
      rcases Nat.lt_or_ge j m with h | h
      · exact h
      · exact absurd hj (tail_waits hs hc hn inv _ i rfl hin hun j h)
    refine ⟨hjn, fun W' hb => ?_⟩
    by_cases hji : j = i
    · subst hji
      refine mOp_quiet hi hy (hW.trans (hb.mono hW.size)) fun W'' hb2 => ⟨(hW.trans (hb.mono hW.size)).trans (hb2.mono (hW.trans (hb.mono hW.size)).size), ?_⟩
      exact fun W3 hb3 => H W3 ((hb.trans (hb2.mono hb.size)).trans (hb3.mono (hb.trans (hb2.mono hb.size)).size))
    · have := hdone _ _ _ (H W (Below.refl _ _)) j (ready_mono hj hji)
      omega
  | succ f ih =>
    intro listed a W inv hW hfree hr hy H
    have hun := (mem_ready.1 hr).1
    refine ⟨fun h => (by rw [h] at hr; cases hr), fun j hj => ?_⟩
    have hjn : j < m := by
      rcases Nat.lt_or_ge j m with h | h
      · exact h
      · exact absurd hj (tail_waits hs hc hn inv _ i rfl hin hun j h)
    refine ⟨hjn, fun W' hb => ?_⟩
    by_cases hji : j = i
    · subst hji
      refine mOp_quiet hi hy (hW.trans (hb.mono hW.size)) fun W'' hb2 => ⟨(hW.trans (hb.mono hW.size)).trans (hb2.mono (hW.trans (hb.mono hW.size)).size), ?_⟩
      exact wpAnyM_grow (hb.trans (hb2.mono hb.size)) H
    · have h1 := (H.2 j (ready_mono hj hji)).2 W' hb
      obtain ⟨hjun, oj, hoj, hall⟩ := mem_ready.1 hj
      have hnot : ∀ e ∈ oj.after, Region.binds md e = true → e.on ≠ i := fun e he hb heq => by
        have h1 := hall e he hb
        rw [heq, getD_both hun] at h1
        cases h1
      have h2 := mOp_put hoj (hfree j oj hoj hji hjun hnot) (fun cs b => hsel i oi cs b hi) (fun cs b => hsel j oj cs b hoj) hy h1
      have hfree' : ∀ k ok, ops[k]? = some ok → k ≠ i → (listed.setIfInBounds j true).getD k true = false →
          (∀ e ∈ ok.after, Region.binds md e = true → e.on ≠ i) → oi.apart ops ok = true := fun k ok hk hki hun hno => by
        refine hfree k ok hk hki ?_ hno
        by_cases hjk : j = k
        · subst hjk; exact hjun
        · rw [getD_set_ne true hjk] at hun; exact hun
      refine mOp_mono (fun a' W'' h3 => ⟨h3.2.1, ih (listed.setIfInBounds j true) a' W'' (inv.set hj hjn) h3.2.1 hfree' (ready_mono hr (Ne.symm hji)) h3.1 ?_⟩) h2
      rw [Array.setIfInBounds_comm _ _ hji]
      exact h3.2.2

/-- the operations in the middle: one behind the other; ahead of each of them the memory may have grown -/
def wpMid (P : Program) (w0 : World) (Q : Act → World → Prop) : List Oper → Act → World → Prop
  | [], a, W => ∀ W', Below W.heap.size W W' → Q a W'
  | o :: rest, a, W => o.guard = none ∧ ∀ W', Below W.heap.size W W' → o.calm P a W' (fun a'' W'' => Below w0.heap.size w0 W'' ∧ wpMid P w0 Q rest a'' W'')
theorem wpMid_nil {Q : Act → World → Prop} {a : Act} {W : World} (h : ∀ W', Below W.heap.size W W' → Q a W') : wpMid P w0 Q [] a W := h
theorem wpMid_step {Q : Act → World → Prop} {a : Act} {W : World} {o : Oper} {rest : List Oper} (hg : o.guard = none)
    (h : ∀ W', Below W.heap.size W W' → ∀ K : Act → World → Prop, (∀ a w, Below w0.heap.size w0 w → wpMid P w0 Q rest a w → K a w) → o.calm P a W' K) : wpMid P w0 Q (o :: rest) a W :=
  ⟨hg, fun W' hb => h W' hb _ fun _ _ h1 h2 => ⟨h1, h2⟩⟩

theorem wpAnyM_mid {g : Nat} {Lq : Act → World → Prop} (hn : m < ops.size) :
    ∀ (l : List Oper) (k : Nat) (listed : Array Bool) (a : Act) (W : World), (∀ j, j < l.length → l[j]? = ops[k + j]?) → k + l.length = m → Region.seqB md ops (l.length + g) k listed = true → wpMid P w0 Lq l a W →
    wpAnyM P md ops w0 m (fun listed' a' W' => Region.seqB md ops g m listed' = true ∧ Lq a' W') l.length listed a W
  | [], k, listed, a, W, _, hk, hB, h => by
    have : k = m := by simpa using hk
    subst this
    simp only [List.length_nil, Nat.zero_add] at hB
    exact fun W' hb => ⟨hB, h W' hb⟩
  | o :: l, k, listed, a, W, hl, hk, hB, h => by
    have h0 : ops[k]? = some o := by simpa using (hl 0 (by simp)).symm
    simp only [List.length_cons] at hB
    rw [show l.length + 1 + g = (l.length + g) + 1 by omega] at hB
    simp only [Region.seqB, Bool.and_eq_true, decide_eq_true_eq] at hB
    refine ⟨fun h1 => (by rw [hB.1] at h1; cases h1), fun i hi => ?_⟩
    rw [hB.1] at hi
    have hik : i = k := by simpa using hi
    subst hik
    refine ⟨by simp only [List.length_cons] at hk; omega, fun W' hb => ?_⟩
    unfold mOp
    simp only [h0]
    rw [if_pos (by simp [Region.wanted, h.1])]
    exact Oper.calm_mono (o := o) (W := W') (a := a) (fun a' W'' h3 => ⟨h3.1, wpAnyM_mid hn l (i + 1) _ a' W'' (fun j hj => by have := hl (j + 1) (by simp; omega); simpa [Nat.add_assoc, Nat.add_comm 1 j] using this) (by simp only [List.length_cons] at hk; omega) hB.2 h3.2⟩) (h.2 W' hb)

theorem wpAnyM_lex {g : Nat} {Lq : Act → World → Prop} {mid : List Oper} (hsel : Region.noSelect ops = true) (hs : Region.sinkB md ops m = true) (hc : Region.chainB md ops m = true) (hn : m < ops.size) :
    ∀ (l : List Oper) (k : Nat) (listed : Array Bool) (a : Act) (W : World), (∀ j, j < (l ++ mid).length → (l ++ mid)[j]? = ops[k + j]?) → k + (l ++ mid).length = m → HeadInv md ops m listed → Below w0.heap.size w0 W →
    Region.lexHead md ops (mid.length + g) l.length k listed = true → wpGrow P ops w0 (fun a' => ∀ W, Below w0.heap.size w0 W → wpMid P w0 Lq mid a' W) l a →
    wpAnyM P md ops w0 m (fun listed' a' W' => Region.seqB md ops g m listed' = true ∧ Lq a' W') (l.length + mid.length) listed a W
  | [], k, listed, a, W, hl, hk, inv, hW, hB, h => by
    simp only [List.length_nil, Region.lexHead] at hB
    rw [List.length_nil, Nat.zero_add]
    exact wpAnyM_mid hn mid k listed a W hl (by simpa using hk) hB (h W hW)
  | o :: l, k, listed, a, W, hl, hk, inv, hW, hB, h => by
    have h0 : ops[k]? = some o := by simpa using (hl 0 (by simp)).symm
    simp only [List.length_cons] at hB
    unfold Region.lexHead at hB
    simp only [Bool.and_eq_true] at hB
    obtain ⟨⟨hr, hf⟩, hB'⟩ := hB
    have hkn : k < m := by simp only [List.cons_append, List.length_cons] at hk; omega
    have hr' : k ∈ Region.ready md ops listed := by simpa using hr
    have hst : rOp P ops w0 k (wpGrow P ops w0 (fun a' => ∀ W, Below w0.heap.size w0 W → wpMid P w0 Lq mid a' W) l) a := by unfold rOp; simp only [h0]; exact h
    obtain ⟨v, hy, hK⟩ := yieldsG_of_rOp h0 hst
    rw [List.length_cons, show l.length + 1 + mid.length = (l.length + mid.length) + 1 by omega]
    exact wpAnyM_first h0 (Region.noSelect_spec hsel) hs hc hn hkn (fun listed' a' W' hL => seqB_ready hL.1) (l.length + mid.length) listed a W inv hW (Region.free_spec h0 hf) hr' hy
      (wpAnyM_lex hsel hs hc hn l (k + 1) _ _ W (fun j hj => by have := hl (j + 1) (by simp only [List.cons_append, List.length_cons] at *; omega); simpa [Nat.add_assoc, Nat.add_comm 1 j] using this) (by simp only [List.cons_append, List.length_cons] at hk; omega) (inv.set hr' hkn) hW hB' hK)
end

/-- what is asked of the region's form: n quiet operations, then q more, one behind the other, then the others -/
def Region.midB (md : Region.Mode) (ops : Array Oper) (n q : Nat) : Bool :=
  Region.noSelect ops && decide (n + q < ops.size) && Region.sinkB md ops (n + q) && Region.chainB md ops (n + q) && Region.lexHead md ops (q + (ops.size - (n + q))) n 0 (Array.replicate ops.size false)

/-- A REGION THAT DRAWS: n quiet operations (calls may lay blocks), q operations that may lay blocks or write to new ones, and what is done behind them all. -/
theorem wp_region_mid {P : Program} {id : Nat} {Q : Exit → Act → World → Prop} {a : Act} {w : World} {l : List Oper} (n q : Nat) (hm : P.follows .mixedOrders = true)
    (hB : Region.midB .any l.toArray n q = true)
    (h : wpGrow P l.toArray w (fun a' => ∀ W, Below w.heap.size w W → wpMid P w (fun a'' W' => wpList P l.toArray Q (l.drop (n + q)) a'' W') ((l.drop n).take q) a' W) (l.take n) a) : (Code.region id l.toArray true).wp P Q a w := by
  simp only [Region.midB, Bool.and_eq_true, decide_eq_true_eq] at hB
  obtain ⟨⟨⟨⟨hsel, hn⟩, hs⟩, hc⟩, hlex⟩ := hB
  have hn' : n + q < l.length := by simpa using hn
  have htl : (l.take n).length = n := by simp; omega
  have hql : ((l.drop n).take q).length = q := by simp; omega
  have hdl : (l.drop (n + q)).length = l.toArray.size - (n + q) := by simp
  have hcat : l.take n ++ (l.drop n).take q = l.take (n + q) := by rw [List.take_add]
  have inv0 : HeadInv .any l.toArray (n + q) (Array.replicate l.toArray.size false) :=
    ⟨by simp, fun j oj _ hl => (by rw [getD_replicate_false] at hl; cases hl), fun t _ ht => getD_in (by simpa using ht) (getD_replicate_false _ _)⟩
  have H := wpAnyM_lex (P := P) (w0 := w) (md := .any) (m := n + q) (g := l.toArray.size - (n + q)) (mid := (l.drop n).take q) hsel hs hc hn (l.take n) 0 _ a { w with drawn := w.drawn + 1 } (fun j hj => by
    rw [hcat] at hj ⊢
    have hj' : j < n + q := by simp at hj; omega
    simp [hj']) (by rw [hcat]; simp; omega) inv0 ((Below.refl _ _).drew) (by rw [htl, hql]; exact hlex) h
  rw [htl, hql] at H
  refine wp_region_any hm ?_
  have sound : ∀ (f : Nat) (listed : Array Bool) (a' : Act) (W : World),
      wpAnyM P .any l.toArray w (n + q) (fun listed' a' W' => Region.seqB .any l.toArray (l.toArray.size - (n + q)) (n + q) listed' = true ∧ wpList P l.toArray Q (l.drop (n + q)) a' W') f listed a' W →
      wpAny P .any l.toArray Q (f + (l.toArray.size - (n + q))) listed a' W := by
    intro f
    induction f with
    | zero =>
      intro listed a' W hL
      obtain ⟨hseq, hrun⟩ := hL W (Below.refl _ _)
      rw [Nat.zero_add]
      have := wpAny_of_seq (P := P) (md := .any) (Q' := Q) (l.drop (n + q)) (n + q) listed _ W (fun j => by simp [List.getElem?_drop]) (by rw [hdl]; exact hseq) hrun
      rw [hdl] at this
      simpa using this
    | succ f ih =>
      intro listed a' W hL
      rw [show f + 1 + (l.toArray.size - (n + q)) = (f + (l.toArray.size - (n + q))) + 1 by omega]
      refine ⟨fun h0 => absurd h0 hL.1, fun i hi => ?_⟩
      have h1 := (hL.2 i hi).2 W (Below.refl _ _)
      unfold mOp at h1
      unfold wpOp
      cases ho : l.toArray[i]? with
      | none => simp only [ho] at h1 ⊢; exact ih _ _ _ h1.2
      | some o =>
        simp only [ho] at h1 ⊢
        split
        · rename_i hw
          rw [if_pos hw] at h1
          left
          unfold Oper.calm at h1
          unfold Oper.wp
          generalize (execOp a'.eval o).run P W = r at h1 ⊢
          cases r with
          | halt x w' => simp only [Oper.calmUpon] at h1
          | ok x w' =>
            cases x <;> simp only [Oper.calmUpon] at h1 <;> simp only [Oper.upon]
            case value u => exact ih _ _ _ h1.2
            case skip => exact ih _ _ _ h1.2
            case enter f' args =>
              refine h1.mono ?_
              rintro e W'' ⟨v, rfl, h2⟩
              exact ih _ _ _ h2.2
        · rename_i hw
          rw [if_neg hw] at h1
          exact ih _ _ _ h1.2
  have := sound (n + q) _ a { w with drawn := w.drawn + 1 } H
  rw [show n + q + (l.toArray.size - (n + q)) = l.toArray.size by omega] at this
  exact this
attribute [go_sem] Oper.calm Oper.calmUpon
end Go

/- REGIONS THAT DRAW, OVER A CLASS OF WORLDS. -/
import Derived.Test.YtpoaakdljpdkfaaDoorMem
import Derived.OrdersIn
import Derived.ControlIn
set_option linter.unusedSimpArgs false
set_option linter.unusedVariables false
namespace Go
open Go.RowKit
section
variable {P : Program} {ops : Array Oper} {md : Region.Mode} {C : World → Prop} {m : Nat}
def Oper.growC (P : Program) (o : Oper) (a : Act) (C : World → Prop) (next : Act → Prop) : Prop := ∃ v, (∀ W, C W → o.growAt P a W v) ∧ next (a.put o.dst v)
def wpGrowC (P : Program) (ops : Array Oper) (C : World → Prop) (Q : Act → Prop) : List Oper → Act → Prop
  | [], a => Q a
  | o :: rest, a => if Region.wanted o (yielded ops a.tmps) then o.growC P a C (wpGrowC P ops C Q rest) else wpGrowC P ops C Q rest (a.put o.dst undef)
theorem wpGrowC_nil {Q : Act → Prop} {a : Act} (h : Q a) : wpGrowC P ops C Q [] a := h
theorem wpGrowC_step {Q : Act → Prop} {a : Act} {o : Oper} {rest : List Oper}
    (h : ∀ K : Act → Prop, (∀ a, wpGrowC P ops C Q rest a → K a) → if Region.wanted o (yielded ops a.tmps) then o.growC P a C K else K (a.put o.dst undef)) : wpGrowC P ops C Q (o :: rest) a :=
  h _ (fun _ h => h)

def rOpC (P : Program) (ops : Array Oper) (C : World → Prop) (i : Nat) (K : Act → Prop) (a : Act) : Prop :=
  match ops[i]? with
  | none => K a
  | some o => if Region.wanted o (yielded ops a.tmps) then o.growC P a C K else K (a.put o.dst undef)
theorem rOpC_mono {i : Nat} {a : Act} {K K' : Act → Prop} (h : ∀ a, K a → K' a) (hh : rOpC P ops C i K a) : rOpC P ops C i K' a := by
  unfold rOpC at *
  split
  · exact h _ (by simpa [*] using hh)
  · rename_i o ho
    simp only [ho] at hh
    split
    · rename_i hw; simp only [hw, if_true] at hh; obtain ⟨v, h1, h2⟩ := hh; exact ⟨v, h1, h _ h2⟩
    · rename_i hw; simp only [hw] at hh; exact h _ hh
def YieldsC (P : Program) (ops : Array Oper) (C : World → Prop) (o : Oper) (v : Value) (a : Act) : Prop :=
  (Region.wanted o (yielded ops a.tmps) = true ∧ ∀ W, C W → o.growAt P a W v) ∨ (Region.wanted o (yielded ops a.tmps) = false ∧ v = undef)
theorem YieldsC.rOpC {i : Nat} {o : Oper} {v : Value} {a : Act} (hi : ops[i]? = some o) (hy : YieldsC P ops C o v a) {K : Act → Prop} (h : K (a.put o.dst v)) : rOpC P ops C i K a := by
  unfold Go.rOpC
  simp only [hi]
  rcases hy with ⟨hw, hv⟩ | ⟨hw, rfl⟩
  · simp only [hw, if_true]; exact ⟨v, hv, h⟩
  · simp only [hw, Bool.false_eq_true, if_false]; exact h
theorem YieldsC.of_same {o : Oper} {v : Value} {a a' : Act} (hy : YieldsC P ops C o v a) (he : execOp a'.eval o = execOp a.eval o)
    (hw : Region.wanted o (yielded ops a'.tmps) = Region.wanted o (yielded ops a.tmps)) : YieldsC P ops C o v a' := by
  unfold YieldsC Oper.growAt at *
  rw [he, hw]
  exact hy
theorem yieldsC_of_rOpC {i : Nat} {o : Oper} {a : Act} {K : Act → Prop} (hi : ops[i]? = some o) (h : rOpC P ops C i K a) : ∃ v, YieldsC P ops C o v a ∧ K (a.put o.dst v) := by
  unfold rOpC at h
  simp only [hi] at h
  by_cases hw : Region.wanted o (yielded ops a.tmps) = true
  · simp only [hw, if_true] at h
    obtain ⟨v, h1, h2⟩ := h
    exact ⟨v, .inl ⟨hw, h1⟩, h2⟩
  · simp only [hw] at h
    exact ⟨undef, .inr ⟨by simpa using hw, rfl⟩, h⟩
theorem rOpC_put {j : Nat} {oi oj : Oper} {v : Value} (hj : ops[j]? = some oj) (hap : oi.apart ops oj = true)
    (hsi : ∀ cs b, oi.op ≠ .select cs b) (hsj : ∀ cs b, oj.op ≠ .select cs b) {K : Act → Prop} {a : Act}
    (hy : YieldsC P ops C oi v a) (h : rOpC P ops C j K (a.put oi.dst v)) :
    rOpC P ops C j (fun a' => YieldsC P ops C oi v a' ∧ K (a'.put oi.dst v)) a := by
  obtain ⟨h1, h2, h3⟩ := Oper.apart_spec hap
  have keep : ∀ (a : Act), YieldsC P ops C oi v a → ∀ u, YieldsC P ops C oi v (a.put oj.dst u) := fun a hy u =>
    hy.of_same (execOp_put oi hsi a oj.dst u h3) (wanted_put oi a oj.dst u h3)
  unfold rOpC at *
  simp only [hj] at *
  rw [wanted_put oj a oi.dst v h1] at h
  split
  · rename_i hw
    simp only [hw, if_true] at h
    obtain ⟨u, hu, hn⟩ := h
    refine ⟨u, fun W hW => ?_, keep a hy u, by rw [← Act.put_comm a v u h2]; exact hn⟩
    have := hu W hW
    unfold Oper.growAt at *
    rwa [execOp_put oj hsj a oi.dst v h1] at this
  · rename_i hw
    simp only [hw] at h
    exact ⟨keep a hy _, by rw [← Act.put_comm a v undef h2]; exact h⟩
theorem mOpC_put {j : Nat} {oi oj : Oper} {v : Value} (hj : ops[j]? = some oj) (hap : oi.apart ops oj = true)
    (hsi : ∀ cs b, oi.op ≠ .select cs b) (hsj : ∀ cs b, oj.op ≠ .select cs b) {K : Act → World → Prop} {a : Act} {W : World}
    (hy : YieldsC P ops C oi v a) (h : mOp P ops j K (a.put oi.dst v) W) :
    mOp P ops j (fun a' w' => YieldsC P ops C oi v a' ∧ K (a'.put oi.dst v) w') a W := by
  obtain ⟨h1, h2, h3⟩ := Oper.apart_spec hap
  have keep : ∀ (a : Act), YieldsC P ops C oi v a → ∀ u, YieldsC P ops C oi v (a.put oj.dst u) := fun a hy u =>
    hy.of_same (execOp_put oi hsi a oj.dst u h3) (wanted_put oi a oj.dst u h3)
  unfold mOp at *
  simp only [hj] at *
  rw [wanted_put oj a oi.dst v h1] at h
  split
  · rename_i hw
    simp only [hw, if_true] at h
    unfold Oper.calm at *
    rw [execOp_put oj hsj a oi.dst v h1] at h
    generalize (execOp a.eval oj).run P W = r at *
    cases r with
    | ok n w' =>
      cases n <;> simp only [Oper.calmUpon] at h ⊢
      case value u => exact ⟨keep a hy u, by rw [← Act.put_comm a v u h2]; exact h⟩
      case skip => exact ⟨keep a hy _, by rw [← Act.put_comm a v undef h2]; exact h⟩
      case enter f args => exact h.mono fun e w'' ⟨u, he, hk⟩ => ⟨u, he, keep a hy u, by rw [← Act.put_comm a v u h2]; exact hk⟩
    | halt x w' => simp only [Oper.calmUpon] at h
  · rename_i hw
    simp only [hw] at h
    exact ⟨keep a hy _, by rw [← Act.put_comm a v undef h2]; exact h⟩
/-- every order of the operations below m; ahead of each of them the memory may have grown -/
def wpAnyMC (P : Program) (md : Region.Mode) (ops : Array Oper) (C : World → Prop) (m : Nat) (L : Array Bool → Act → World → Prop) : Nat → Array Bool → Act → World → Prop
  | 0, listed, a, W => ∀ W', Below W.heap.size W W' → L listed a W'
  | f + 1, listed, a, W =>
    Region.ready md ops listed ≠ [] ∧ ∀ i ∈ Region.ready md ops listed, i < m ∧ ∀ W', Below W.heap.size W W' →
      mOp P ops i (fun a' W'' => C W'' ∧ wpAnyMC P md ops C m L f (listed.setIfInBounds i true) a' W'') a W'
theorem wpAnyMC_grow {L : Array Bool → Act → World → Prop} : ∀ {f : Nat} {listed : Array Bool} {a : Act} {W W1 : World}, Below W.heap.size W W1 → wpAnyMC P md ops C m L f listed a W → wpAnyMC P md ops C m L f listed a W1
  | 0, _, _, _, _, hb, h => fun W' hb' => h W' (hb.trans (hb'.mono hb.size))
  | f + 1, _, _, _, _, hb, h => ⟨h.1, fun i hi => ⟨(h.2 i hi).1, fun W' hb' => (h.2 i hi).2 W' (hb.trans (hb'.mono hb.size))⟩⟩

theorem mOpC_quiet {i : Nat} {oi : Oper} {v : Value} {a : Act} {W : World} {K : Act → World → Prop} (hi : ops[i]? = some oi) (hy : YieldsC P ops C oi v a) (hb : C W) (h : ∀ W', Below W.heap.size W W' → K (a.put oi.dst v) W') : mOp P ops i K a W := by
  unfold mOp
  simp only [hi]
  rcases hy with ⟨hw, hv⟩ | ⟨hw, rfl⟩
  · simp only [hw, if_true]
    have h5 := hv W hb
    unfold Oper.growAt at h5
    unfold Oper.calm
    generalize (execOp a.eval oi).run P W = r at h5 ⊢
    cases r with
    | halt x w' => simp only [Oper.growUpon] at h5
    | ok x w' =>
      cases x <;> simp only [Oper.growUpon] at h5 <;> simp only [Oper.calmUpon]
      case value u => obtain ⟨rfl, rfl⟩ := h5; exact h _ (Below.refl _ _)
      case skip => obtain ⟨rfl, rfl⟩ := h5; exact h _ (Below.refl _ _)
      case enter f' args => obtain ⟨rfl, h6⟩ := h5; exact h6.mono fun e w'' ⟨he, hb2⟩ => ⟨v, he, h _ hb2⟩
  · simp only [hw, Bool.false_eq_true, if_false]
    exact h _ (Below.refl _ _)

theorem wpAnyMC_first (hC : ∀ W W', C W → Below W.heap.size W W' → C W') {i : Nat} {oi : Oper} {v : Value} {L : Array Bool → Act → World → Prop} (hi : ops[i]? = some oi) (hsel : ∀ (j : Nat) (o : Oper) cs b, ops[j]? = some o → o.op ≠ .select cs b)
    (hs : Region.sinkB md ops m = true) (hc : Region.chainB md ops m = true) (hn : m < ops.size) (hin : i < m)
    (hdone : ∀ listed a W, L listed a W → ∀ j ∈ Region.ready md ops listed, m ≤ j) :
    ∀ (f : Nat) (listed : Array Bool) (a : Act) (W : World), HeadInv md ops m listed → C W →
      (∀ j oj, ops[j]? = some oj → j ≠ i → listed.getD j true = false → (∀ e ∈ oj.after, Region.binds md e = true → e.on ≠ i) → oi.apart ops oj = true) →
      i ∈ Region.ready md ops listed → YieldsC P ops C oi v a →
      wpAnyMC P md ops C m L f (listed.setIfInBounds i true) (a.put oi.dst v) W → wpAnyMC P md ops C m L (f + 1) listed a W := by
  intro f
  induction f with
  | zero =>
    intro listed a W inv hW _ hr hy H
    have hun := (mem_ready.1 hr).1
    refine ⟨fun h => (by rw [h] at hr; cases hr), fun j hj => ?_⟩
    have hjn : j < m := by
      rcases Nat.lt_or_ge j m with h | h
      · exact h
      · exact absurd hj (tail_waits hs hc hn inv _ i rfl hin hun j h)
    refine ⟨hjn, fun W' hb => ?_⟩
    by_cases hji : j = i
    · subst hji
      refine mOpC_quiet hi hy (hC _ _ hW hb) fun W'' hb2 => ⟨hC _ _ (hC _ _ hW hb) hb2, ?_⟩
      exact fun W3 hb3 => H W3 ((hb.trans (hb2.mono hb.size)).trans (hb3.mono (hb.trans (hb2.mono hb.size)).size))
    · have := hdone _ _ _ (H W (Below.refl _ _)) j (ready_mono hj hji)
      omega
  | succ f ih =>
    intro listed a W inv hW hfree hr hy H
    have hun := (mem_ready.1 hr).1
    refine ⟨fun h => (by rw [h] at hr; cases hr), fun j hj => ?_⟩
    have hjn : j < m := by
      rcases Nat.lt_or_ge j m with h | h
      · exact h
      · exact absurd hj (tail_waits hs hc hn inv _ i rfl hin hun j h)
    refine ⟨hjn, fun W' hb => ?_⟩
    by_cases hji : j = i
    · subst hji
      refine mOpC_quiet hi hy (hC _ _ hW hb) fun W'' hb2 => ⟨hC _ _ (hC _ _ hW hb) hb2, ?_⟩
      exact wpAnyMC_grow (hb.trans (hb2.mono hb.size)) H
    · have h1 := (H.2 j (ready_mono hj hji)).2 W' hb
      obtain ⟨hjun, oj, hoj, hall⟩ := mem_ready.1 hj
      have hnot : ∀ e ∈ oj.after, Region.binds md e = true → e.on ≠ i := fun e he hb heq => by
        have h1 := hall e he hb
        rw [heq, getD_both hun] at h1
        cases h1
      have h2 := mOpC_put hoj (hfree j oj hoj hji hjun hnot) (fun cs b => hsel i oi cs b hi) (fun cs b => hsel j oj cs b hoj) hy h1
      have hfree' : ∀ k ok, ops[k]? = some ok → k ≠ i → (listed.setIfInBounds j true).getD k true = false →
          (∀ e ∈ ok.after, Region.binds md e = true → e.on ≠ i) → oi.apart ops ok = true := fun k ok hk hki hun hno => by
        refine hfree k ok hk hki ?_ hno
        by_cases hjk : j = k
        · subst hjk; exact hjun
        · rw [getD_set_ne true hjk] at hun; exact hun
      refine mOp_mono (fun a' W'' h3 => ⟨h3.2.1, ih (listed.setIfInBounds j true) a' W'' (inv.set hj hjn) h3.2.1 hfree' (ready_mono hr (Ne.symm hji)) h3.1 ?_⟩) h2
      rw [Array.setIfInBounds_comm _ _ hji]
      exact h3.2.2

/-- the operations in the middle: one behind the other; ahead of each of them the memory may have grown -/
def wpMidC (P : Program) (C : World → Prop) (Q : Act → World → Prop) : List Oper → Act → World → Prop
  | [], a, W => ∀ W', Below W.heap.size W W' → Q a W'
  | o :: rest, a, W => o.guard = none ∧ ∀ W', Below W.heap.size W W' → o.calm P a W' (fun a'' W'' => C W'' ∧ wpMidC P C Q rest a'' W'')
theorem wpMidC_nil {Q : Act → World → Prop} {a : Act} {W : World} (h : ∀ W', Below W.heap.size W W' → Q a W') : wpMidC P C Q [] a W := h
theorem wpMidC_step {Q : Act → World → Prop} {a : Act} {W : World} {o : Oper} {rest : List Oper} (hg : o.guard = none)
    (h : ∀ W', Below W.heap.size W W' → ∀ K : Act → World → Prop, (∀ a w, C w → wpMidC P C Q rest a w → K a w) → o.calm P a W' K) : wpMidC P C Q (o :: rest) a W :=
  ⟨hg, fun W' hb => h W' hb _ fun _ _ h1 h2 => ⟨h1, h2⟩⟩

theorem wpAnyMC_mid {g : Nat} {Lq : Act → World → Prop} (hn : m < ops.size) :
    ∀ (l : List Oper) (k : Nat) (listed : Array Bool) (a : Act) (W : World), (∀ j, j < l.length → l[j]? = ops[k + j]?) → k + l.length = m → Region.seqB md ops (l.length + g) k listed = true → wpMidC P C Lq l a W →
    wpAnyMC P md ops C m (fun listed' a' W' => Region.seqB md ops g m listed' = true ∧ Lq a' W') l.length listed a W
  | [], k, listed, a, W, _, hk, hB, h => by
    have : k = m := by simpa using hk
    subst this
    simp only [List.length_nil, Nat.zero_add] at hB
    exact fun W' hb => ⟨hB, h W' hb⟩
  | o :: l, k, listed, a, W, hl, hk, hB, h => by
    have h0 : ops[k]? = some o := by simpa using (hl 0 (by simp)).symm
    simp only [List.length_cons] at hB
    rw [show l.length + 1 + g = (l.length + g) + 1 by omega] at hB
    simp only [Region.seqB, Bool.and_eq_true, decide_eq_true_eq] at hB
    refine ⟨fun h1 => (by rw [hB.1] at h1; cases h1), fun i hi => ?_⟩
    rw [hB.1] at hi
    have hik : i = k := by simpa using hi
    subst hik
    refine ⟨by simp only [List.length_cons] at hk; omega, fun W' hb => ?_⟩
    unfold mOp
    simp only [h0]
    rw [if_pos (by simp [Region.wanted, h.1])]
    exact Oper.calm_mono (o := o) (W := W') (a := a) (fun a' W'' h3 => ⟨h3.1, wpAnyMC_mid hn l (i + 1) _ a' W'' (fun j hj => by have := hl (j + 1) (by simp; omega); simpa [Nat.add_assoc, Nat.add_comm 1 j] using this) (by simp only [List.length_cons] at hk; omega) hB.2 h3.2⟩) (h.2 W' hb)

theorem wpAnyMC_lex (hC : ∀ W W', C W → Below W.heap.size W W' → C W') {g : Nat} {Lq : Act → World → Prop} {mid : List Oper} (hsel : Region.noSelect ops = true) (hs : Region.sinkB md ops m = true) (hc : Region.chainB md ops m = true) (hn : m < ops.size) :
    ∀ (l : List Oper) (k : Nat) (listed : Array Bool) (a : Act) (W : World), (∀ j, j < (l ++ mid).length → (l ++ mid)[j]? = ops[k + j]?) → k + (l ++ mid).length = m → HeadInv md ops m listed → C W →
    Region.lexHead md ops (mid.length + g) l.length k listed = true → wpGrowC P ops C (fun a' => ∀ W, C W → wpMidC P C Lq mid a' W) l a →
    wpAnyMC P md ops C m (fun listed' a' W' => Region.seqB md ops g m listed' = true ∧ Lq a' W') (l.length + mid.length) listed a W
  | [], k, listed, a, W, hl, hk, inv, hW, hB, h => by
    simp only [List.length_nil, Region.lexHead] at hB
    rw [List.length_nil, Nat.zero_add]
    exact wpAnyMC_mid hn mid k listed a W hl (by simpa using hk) hB (h W hW)
  | o :: l, k, listed, a, W, hl, hk, inv, hW, hB, h => by
    have h0 : ops[k]? = some o := by simpa using (hl 0 (by simp)).symm
    simp only [List.length_cons] at hB
    unfold Region.lexHead at hB
    simp only [Bool.and_eq_true] at hB
    obtain ⟨⟨hr, hf⟩, hB'⟩ := hB
    have hkn : k < m := by simp only [List.cons_append, List.length_cons] at hk; omega
    have hr' : k ∈ Region.ready md ops listed := by simpa using hr
    have hst : rOpC P ops C k (wpGrowC P ops C (fun a' => ∀ W, C W → wpMidC P C Lq mid a' W) l) a := by unfold rOpC; simp only [h0]; exact h
    obtain ⟨v, hy, hK⟩ := yieldsC_of_rOpC h0 hst
    rw [List.length_cons, show l.length + 1 + mid.length = (l.length + mid.length) + 1 by omega]
    exact wpAnyMC_first hC h0 (Region.noSelect_spec hsel) hs hc hn hkn (fun listed' a' W' hL => seqB_ready hL.1) (l.length + mid.length) listed a W inv hW (Region.free_spec h0 hf) hr' hy
      (wpAnyMC_lex hC hsel hs hc hn l (k + 1) _ _ W (fun j hj => by have := hl (j + 1) (by simp only [List.cons_append, List.length_cons] at *; omega); simpa [Nat.add_assoc, Nat.add_comm 1 j] using this) (by simp only [List.cons_append, List.length_cons] at hk; omega) (inv.set hr' hkn) hW hB' hK)
end
theorem wp_region_midC {P : Program} {id : Nat} {Q : Exit → Act → World → Prop} {a : Act} {w : World} {l : List Oper} (n q : Nat) (C : World → Prop) (hC : ∀ W W', C W → Below W.heap.size W W' → C W') (h00 : C { w with drawn := w.drawn + 1 }) (hm : P.follows .mixedOrders = true)
    (hB : Region.midB .any l.toArray n q = true)
    (h : wpGrowC P l.toArray C (fun a' => ∀ W, C W → wpMidC P C (fun a'' W' => wpList P l.toArray Q (l.drop (n + q)) a'' W') ((l.drop n).take q) a' W) (l.take n) a) : (Code.region id l.toArray true).wp P Q a w := by
  simp only [Region.midB, Bool.and_eq_true, decide_eq_true_eq] at hB
  obtain ⟨⟨⟨⟨hsel, hn⟩, hs⟩, hc⟩, hlex⟩ := hB
  have hn' : n + q < l.length := by simpa using hn
  have htl : (l.take n).length = n := by simp; omega
  have hql : ((l.drop n).take q).length = q := by simp; omega
  have hdl : (l.drop (n + q)).length = l.toArray.size - (n + q) := by simp
  have hcat : l.take n ++ (l.drop n).take q = l.take (n + q) := by rw [List.take_add]
  have inv0 : HeadInv .any l.toArray (n + q) (Array.replicate l.toArray.size false) :=
    ⟨by simp, fun j oj _ hl => (by rw [getD_replicate_false] at hl; cases hl), fun t _ ht => getD_in (by simpa using ht) (getD_replicate_false _ _)⟩
  have H := wpAnyMC_lex (P := P) (C := C) (md := .any) (m := n + q) (g := l.toArray.size - (n + q)) (mid := (l.drop n).take q) hC hsel hs hc hn (l.take n) 0 _ a { w with drawn := w.drawn + 1 } (fun j hj => by
    rw [hcat] at hj ⊢
    have hj' : j < n + q := by simp at hj; omega
    simp [hj']) (by rw [hcat]; simp; omega) inv0 h00 (by rw [htl, hql]; exact hlex) h
  rw [htl, hql] at H
  refine wp_region_any hm ?_
  have sound : ∀ (f : Nat) (listed : Array Bool) (a' : Act) (W : World),
      wpAnyMC P .any l.toArray C (n + q) (fun listed' a' W' => Region.seqB .any l.toArray (l.toArray.size - (n + q)) (n + q) listed' = true ∧ wpList P l.toArray Q (l.drop (n + q)) a' W') f listed a' W →
      wpAny P .any l.toArray Q (f + (l.toArray.size - (n + q))) listed a' W := by
    intro f
    induction f with
    | zero =>
      intro listed a' W hL
      obtain ⟨hseq, hrun⟩ := hL W (Below.refl _ _)
      rw [Nat.zero_add]
      have := wpAny_of_seq (P := P) (md := .any) (Q' := Q) (l.drop (n + q)) (n + q) listed _ W (fun j => by simp [List.getElem?_drop]) (by rw [hdl]; exact hseq) hrun
      rw [hdl] at this
      simpa using this
    | succ f ih =>
      intro listed a' W hL
      rw [show f + 1 + (l.toArray.size - (n + q)) = (f + (l.toArray.size - (n + q))) + 1 by omega]
      refine ⟨fun h0 => absurd h0 hL.1, fun i hi => ?_⟩
      have h1 := (hL.2 i hi).2 W (Below.refl _ _)
      unfold mOp at h1
      unfold wpOp
      cases ho : l.toArray[i]? with
      | none => simp only [ho] at h1 ⊢; exact ih _ _ _ h1.2
      | some o =>
        simp only [ho] at h1 ⊢
        split
        · rename_i hw
          rw [if_pos hw] at h1
          left
          unfold Oper.calm at h1
          unfold Oper.wp
          generalize (execOp a'.eval o).run P W = r at h1 ⊢
          cases r with
          | halt x w' => simp only [Oper.calmUpon] at h1
          | ok x w' =>
            cases x <;> simp only [Oper.calmUpon] at h1 <;> simp only [Oper.upon]
            case value u => exact ih _ _ _ h1.2
            case skip => exact ih _ _ _ h1.2
            case enter f' args =>
              refine h1.mono ?_
              rintro e W'' ⟨v, rfl, h2⟩
              exact ih _ _ _ h2.2
        · rename_i hw
          rw [if_neg hw] at h1
          exact ih _ _ _ h1.2
  have := sound (n + q) _ a { w with drawn := w.drawn + 1 } H
  rw [show n + q + (l.toArray.size - (n + q)) = l.toArray.size by omega] at this
  exact this
end Go

/- REGIONS THAT DRAW: quiet operations and others mixed. One walk in the text's order serves every order, where each operation that is not quiet stands alone when its turn comes. Plain, and inside a fence. -/
set_option linter.unusedSimpArgs false
set_option linter.unusedVariables false
namespace Go
open Go.RowKit
/-- what is asked of a way to carry operations out -/
structure Mixes (ops : Array Oper) (C : World → Prop) (Y : Oper → Value → Act → Prop) (ex : Nat → (Act → World → Prop) → Act → World → Prop) : Prop where
  mono : ∀ {i : Nat} {a : Act} {W : World} {K K' : Act → World → Prop}, (∀ a w, K a w → K' a w) → ex i K a W → ex i K' a W
  quiet : ∀ {i : Nat} {oi : Oper} {v : Value} {a : Act} {W : World} {K : Act → World → Prop}, ops[i]? = some oi → Y oi v a → C W → (∀ W', Below W.heap.size W W' → K (a.put oi.dst v) W') → ex i K a W
  put : ∀ {j : Nat} {oi oj : Oper} {v : Value}, ops[j]? = some oj → oi.apart ops oj = true → (∀ cs b, oi.op ≠ .select cs b) → (∀ cs b, oj.op ≠ .select cs b) → ∀ {K : Act → World → Prop} {a : Act} {W : World},
    Y oi v a → ex j K (a.put oi.dst v) W → ex j (fun a' w' => Y oi v a' ∧ K (a'.put oi.dst v) w') a W

section
variable {ops : Array Oper} {md : Region.Mode} {C : World → Prop} {Y : Oper → Value → Act → Prop} {ex : Nat → (Act → World → Prop) → Act → World → Prop}
/-- every order; ahead of each operation the memory may have grown -/
def wpAnyX (md : Region.Mode) (ops : Array Oper) (C : World → Prop) (ex : Nat → (Act → World → Prop) → Act → World → Prop) (L : Act → World → Prop) : Nat → Array Bool → Act → World → Prop
  | 0, listed, a, W => Region.ready md ops listed = [] ∧ ∀ W', Below W.heap.size W W' → L a W'
  | f + 1, listed, a, W =>
    Region.ready md ops listed ≠ [] ∧ ∀ i ∈ Region.ready md ops listed, ∀ W', Below W.heap.size W W' →
      ex i (fun a' W'' => C W'' ∧ wpAnyX md ops C ex L f (listed.setIfInBounds i true) a' W'') a W'
theorem wpAnyX_grow {L : Act → World → Prop} : ∀ {f : Nat} {listed : Array Bool} {a : Act} {W W1 : World}, Below W.heap.size W W1 → wpAnyX md ops C ex L f listed a W → wpAnyX md ops C ex L f listed a W1
  | 0, _, _, _, _, hb, h => ⟨h.1, fun W' hb' => h.2 W' (hb.trans (hb'.mono hb.size))⟩
  | f + 1, _, _, _, _, hb, h => ⟨h.1, fun i hi W' hb' => h.2 i hi W' (hb.trans (hb'.mono hb.size))⟩
theorem wpAnyX_first (M : Mixes ops C Y ex) (hC : ∀ W W', C W → Below W.heap.size W W' → C W') {i : Nat} {oi : Oper} {v : Value} {L : Act → World → Prop} (hi : ops[i]? = some oi)
    (hsel : ∀ (j : Nat) (o : Oper) cs b, ops[j]? = some o → o.op ≠ .select cs b) :
    ∀ (f : Nat) (listed : Array Bool) (a : Act) (W : World), C W →
      (∀ j oj, ops[j]? = some oj → j ≠ i → listed.getD j true = false → (∀ e ∈ oj.after, Region.binds md e = true → e.on ≠ i) → oi.apart ops oj = true) →
      i ∈ Region.ready md ops listed → Y oi v a →
      wpAnyX md ops C ex L f (listed.setIfInBounds i true) (a.put oi.dst v) W → wpAnyX md ops C ex L (f + 1) listed a W := by
  intro f
  induction f with
  | zero =>
    intro listed a W hW _ hr hy H
    refine ⟨fun h => (by rw [h] at hr; cases hr), fun j hj W' hb => ?_⟩
    by_cases hji : j = i
    · subst hji
      refine M.quiet hi hy (hC _ _ hW hb) fun W'' hb2 => ⟨hC _ _ (hC _ _ hW hb) hb2, ?_⟩
      exact wpAnyX_grow (hb.trans (hb2.mono hb.size)) H
    · have := ready_mono (i := i) hj hji
      rw [H.1] at this
      cases this
  | succ f ih =>
    intro listed a W hW hfree hr hy H
    have hun := (mem_ready.1 hr).1
    refine ⟨fun h => (by rw [h] at hr; cases hr), fun j hj W' hb => ?_⟩
    by_cases hji : j = i
    · subst hji
      refine M.quiet hi hy (hC _ _ hW hb) fun W'' hb2 => ⟨hC _ _ (hC _ _ hW hb) hb2, ?_⟩
      exact wpAnyX_grow (hb.trans (hb2.mono hb.size)) H
    · have h1 := H.2 j (ready_mono hj hji) W' hb
      obtain ⟨hjun, oj, hoj, hall⟩ := mem_ready.1 hj
      have hnot : ∀ e ∈ oj.after, Region.binds md e = true → e.on ≠ i := fun e he hb heq => by
        have h1 := hall e he hb
        rw [heq, getD_both hun] at h1
        cases h1
      have h2 := M.put hoj (hfree j oj hoj hji hjun hnot) (fun cs b => hsel i oi cs b hi) (fun cs b => hsel j oj cs b hoj) hy h1
      have hfree' : ∀ k ok, ops[k]? = some ok → k ≠ i → (listed.setIfInBounds j true).getD k true = false →
          (∀ e ∈ ok.after, Region.binds md e = true → e.on ≠ i) → oi.apart ops ok = true := fun k ok hk hki hun hno => by
        refine hfree k ok hk hki ?_ hno
        by_cases hjk : j = k
        · subst hjk; exact hjun
        · rw [getD_set_ne true hjk] at hun; exact hun
      refine M.mono (fun a' W'' h3 => ⟨h3.2.1, ih (listed.setIfInBounds j true) a' W'' h3.2.1 hfree' (ready_mono hr (Ne.symm hji)) h3.1 ?_⟩) h2
      rw [Array.setIfInBounds_comm _ _ hji]
      exact h3.2.2
/-- the walk in the text's order: true: a quiet operation (it yields one value in every world of the class); false: any other -/
def wpMixX (C : World → Prop) (Yv : Oper → Value → Act → Prop) (exo : Oper → (Act → World → Prop) → Act → World → Prop) (L : Act → World → Prop) : List (Bool × Oper) → Act → World → Prop
  | [], a, W => ∀ W', Below W.heap.size W W' → L a W'
  | (true, o) :: rest, a, W => ∃ v, Yv o v a ∧ wpMixX C Yv exo L rest (a.put o.dst v) W
  | (false, o) :: rest, a, W => ∀ W', Below W.heap.size W W' → exo o (fun a'' W'' => C W'' ∧ wpMixX C Yv exo L rest a'' W'') a W'
/-- what is asked of the region's form -/
def Region.mixGo (md : Region.Mode) (ops : Array Oper) : List Bool → Nat → Array Bool → Bool
  | [], _, listed => (Region.ready md ops listed).isEmpty
  | true :: fl, k, listed => (Region.ready md ops listed).contains k && Region.free md ops listed k && Region.mixGo md ops fl (k + 1) (listed.setIfInBounds k true)
  | false :: fl, k, listed => decide (Region.ready md ops listed = [k]) && Region.mixGo md ops fl (k + 1) (listed.setIfInBounds k true)
theorem wpAnyX_lex (M : Mixes ops C Y ex) (hC : ∀ W W', C W → Below W.heap.size W W' → C W') {exo : Oper → (Act → World → Prop) → Act → World → Prop} (hex : ∀ {i : Nat} {o : Oper} {K : Act → World → Prop} {a : Act} {W : World}, ops[i]? = some o → exo o K a W → ex i K a W)
    {L : Act → World → Prop} (hsel : Region.noSelect ops = true) :
    ∀ (l : List (Bool × Oper)) (k : Nat) (listed : Array Bool) (a : Act) (W : World), (∀ j, j < l.length → (l[j]?).map (·.2) = ops[k + j]?) → C W →
    Region.mixGo md ops (l.map (·.1)) k listed = true → wpMixX C Y exo L l a W → wpAnyX md ops C ex L l.length listed a W
  | [], k, listed, a, W, hl, hW, hB, h => ⟨by simpa [Region.mixGo] using hB, h⟩
  | (true, o) :: l, k, listed, a, W, hl, hW, hB, h => by
    have h0 : ops[k]? = some o := by simpa using (hl 0 (by simp)).symm
    simp only [List.map_cons, Region.mixGo, Bool.and_eq_true] at hB
    obtain ⟨⟨hr, hf⟩, hB'⟩ := hB
    have hr' : k ∈ Region.ready md ops listed := by simpa using hr
    obtain ⟨v, hy, hK⟩ := h
    exact wpAnyX_first M hC h0 (Region.noSelect_spec hsel) l.length listed a W hW (Region.free_spec h0 hf) hr' hy
      (wpAnyX_lex M hC hex hsel l (k + 1) _ _ W (fun j hj => by have := hl (j + 1) (by simp only [List.length_cons]; omega); simpa [Nat.add_assoc, Nat.add_comm 1 j] using this) hW hB' hK)
  | (false, o) :: l, k, listed, a, W, hl, hW, hB, h => by
    have h0 : ops[k]? = some o := by simpa using (hl 0 (by simp)).symm
    simp only [List.map_cons, Region.mixGo, Bool.and_eq_true, decide_eq_true_eq] at hB
    refine ⟨fun h1 => (by rw [hB.1] at h1; cases h1), fun i hi W' hb => ?_⟩
    rw [hB.1] at hi
    have hik : i = k := by simpa using hi
    subst hik
    exact M.mono (fun a' W'' h3 => ⟨h3.1, wpAnyX_lex M hC hex hsel l (i + 1) _ a' W'' (fun j hj => by have := hl (j + 1) (by simp only [List.length_cons]; omega); simpa [Nat.add_assoc, Nat.add_comm 1 j] using this) h3.1 hB.2 h3.2⟩) (hex h0 (h W' hb))
/-- .. and in whatever order is named -/
def Region.ordGo (md : Region.Mode) (ops : Array Oper) : List (Bool × Nat) → Array Bool → Bool
  | [], listed => (Region.ready md ops listed).isEmpty
  | (true, k) :: fl, listed => (Region.ready md ops listed).contains k && Region.free md ops listed k && Region.ordGo md ops fl (listed.setIfInBounds k true)
  | (false, k) :: fl, listed => decide (Region.ready md ops listed = [k]) && Region.ordGo md ops fl (listed.setIfInBounds k true)
def Region.picked (l : List Oper) : List (Bool × Nat) → List (Bool × Oper)
  | [] => []
  | (b, k) :: pl => match l[k]? with
    | some o => (b, o) :: Region.picked l pl
    | none => []
theorem wpAnyX_ord (M : Mixes ops C Y ex) (hC : ∀ W W', C W → Below W.heap.size W W' → C W') {exo : Oper → (Act → World → Prop) → Act → World → Prop} (hex : ∀ {i : Nat} {o : Oper} {K : Act → World → Prop} {a : Act} {W : World}, ops[i]? = some o → exo o K a W → ex i K a W)
    {L : Act → World → Prop} (hsel : Region.noSelect ops = true) :
    ∀ (pl : List (Bool × Nat)) (listed : Array Bool) (a : Act) (W : World), (∀ p ∈ pl, p.2 < ops.size) → C W →
    Region.ordGo md ops pl listed = true → wpMixX C Y exo L (Region.picked ops.toList pl) a W → wpAnyX md ops C ex L pl.length listed a W
  | [], listed, a, W, hl, hW, hB, h => ⟨by simpa [Region.ordGo] using hB, h⟩
  | (true, k) :: pl, listed, a, W, hl, hW, hB, h => by
    have hk : k < ops.size := hl (true, k) (by simp)
    have h0 : ops[k]? = some ops[k] := Array.getElem?_eq_getElem hk
    simp only [Region.ordGo, Bool.and_eq_true] at hB
    obtain ⟨⟨hr, hf⟩, hB'⟩ := hB
    have hr' : k ∈ Region.ready md ops listed := by simpa using hr
    simp only [Region.picked, Array.getElem?_toList, h0] at h
    obtain ⟨v, hy, hK⟩ := h
    exact wpAnyX_first M hC h0 (Region.noSelect_spec hsel) pl.length listed a W hW (Region.free_spec h0 hf) hr' hy
      (wpAnyX_ord M hC hex hsel pl _ _ W (fun p hp => hl p (by simp [hp])) hW hB' hK)
  | (false, k) :: pl, listed, a, W, hl, hW, hB, h => by
    have hk : k < ops.size := hl (false, k) (by simp)
    have h0 : ops[k]? = some ops[k] := Array.getElem?_eq_getElem hk
    simp only [Region.ordGo, Bool.and_eq_true, decide_eq_true_eq] at hB
    simp only [Region.picked, Array.getElem?_toList, h0] at h
    refine ⟨fun h1 => (by rw [hB.1] at h1; cases h1), fun i hi W' hb => ?_⟩
    rw [hB.1] at hi
    have hik : i = k := by simpa using hi
    subst hik
    exact M.mono (fun a' W'' h3 => ⟨h3.1, wpAnyX_ord M hC hex hsel pl _ a' W'' (fun p hp => hl p (by simp [hp])) h3.1 hB.2 h3.2⟩) (hex h0 (h W' hb))
end
def Region.ordB (md : Region.Mode) (ops : Array Oper) (pl : List (Bool × Nat)) : Bool := Region.noSelect ops && decide (pl.length = ops.size) && pl.all (fun p => decide (p.2 < ops.size)) && Region.ordGo md ops pl (Array.replicate ops.size false)

def Region.mixB (md : Region.Mode) (ops : Array Oper) (fl : List Bool) : Bool := Region.noSelect ops && decide (fl.length = ops.size) && Region.mixGo md ops fl 0 (Array.replicate ops.size false)

/-! ### plain -/
/-- an operation that is carried out, or not wanted -/
def mOpO (P : Program) (ops : Array Oper) (o : Oper) (K : Act → World → Prop) (a : Act) (W : World) : Prop := if Region.wanted o (yielded ops a.tmps) then o.calm P a W K else K (a.put o.dst undef) W
theorem mixes_plain (P : Program) (ops : Array Oper) (C : World → Prop) : Mixes ops C (YieldsC P ops C) (mOp P ops) :=
  ⟨mOp_mono, fun hi hy hW h => mOpC_quiet hi hy hW h, fun hj hap hsi hsj _ _ _ hy h => mOpC_put hj hap hsi hsj hy h⟩
def wpMix (P : Program) (ops : Array Oper) (C : World → Prop) (L : Act → World → Prop) : List (Bool × Oper) → Act → World → Prop := wpMixX C (YieldsC P ops C) (mOpO P ops) L
section
variable {P : Program} {ops : Array Oper} {C : World → Prop} {L : Act → World → Prop} {a : Act} {W : World} {o : Oper} {rest : List (Bool × Oper)}
theorem wpMix_nil (h : ∀ W', Below W.heap.size W W' → L a W') : wpMix P ops C L [] a W := h
/-- a quiet operation -/
theorem wpMix_q (hg : o.guard = none) (h : ∀ K : Act → Prop, (∀ a, wpMix P ops C L rest a W → K a) → ∃ v, (∀ W', C W' → o.growAt P a W' v) ∧ K (a.put o.dst v)) : wpMix P ops C L ((true, o) :: rest) a W := by
  obtain ⟨v, h1, h2⟩ := h _ (fun _ h => h)
  exact ⟨v, .inl ⟨by simp [Region.wanted, hg], h1⟩, h2⟩
/-- a quiet operation behind a guard -/
theorem wpMix_qg (h : ∀ K : Act → Prop, (∀ a, wpMix P ops C L rest a W → K a) → if Region.wanted o (yielded ops a.tmps) then ∃ v, (∀ W', C W' → o.growAt P a W' v) ∧ K (a.put o.dst v) else K (a.put o.dst undef)) : wpMix P ops C L ((true, o) :: rest) a W := by
  have h := h _ (fun _ h => h)
  split at h
  · rename_i hw
    obtain ⟨v, h1, h2⟩ := h
    exact ⟨v, .inl ⟨hw, h1⟩, h2⟩
  · rename_i hw
    exact ⟨undef, .inr ⟨by simpa using hw, rfl⟩, h⟩
theorem wpMix_qy (hw : Region.wanted o (yielded ops a.tmps) = true) (h : ∀ K : Act → Prop, (∀ a, wpMix P ops C L rest a W → K a) → ∃ v, (∀ W', C W' → o.growAt P a W' v) ∧ K (a.put o.dst v)) : wpMix P ops C L ((true, o) :: rest) a W := by
  obtain ⟨v, h1, h2⟩ := h _ (fun _ h => h)
  exact ⟨v, .inl ⟨hw, h1⟩, h2⟩
theorem wpMix_qn (hw : Region.wanted o (yielded ops a.tmps) = false) (h : ∀ K : Act → Prop, (∀ a, wpMix P ops C L rest a W → K a) → K (a.put o.dst undef)) : wpMix P ops C L ((true, o) :: rest) a W :=
  ⟨undef, .inr ⟨hw, rfl⟩, h _ (fun _ h => h)⟩
/-- any other -/
theorem wpMix_s (hg : o.guard = none) (h : ∀ W', Below W.heap.size W W' → ∀ K : Act → World → Prop, (∀ a w, C w → wpMix P ops C L rest a w → K a w) → o.calm P a W' K) : wpMix P ops C L ((false, o) :: rest) a W := by
  intro W' hb
  unfold mOpO
  rw [if_pos (by simp [Region.wanted, hg])]
  exact h W' hb _ fun _ _ h1 h2 => ⟨h1, h2⟩
theorem wpMix_sg (h : ∀ W', Below W.heap.size W W' → ∀ K : Act → World → Prop, (∀ a w, C w → wpMix P ops C L rest a w → K a w) → if Region.wanted o (yielded ops a.tmps) then o.calm P a W' K else K (a.put o.dst undef) W') : wpMix P ops C L ((false, o) :: rest) a W := by
  intro W' hb
  exact h W' hb _ fun _ _ h1 h2 => ⟨h1, h2⟩
end
theorem wp_region_mix {P : Program} {id : Nat} {Q : Exit → Act → World → Prop} {a : Act} {w : World} {l : List Oper} (fl : List Bool) (C : World → Prop) (hC : ∀ W W', C W → Below W.heap.size W W' → C W') (h00 : C w) (hm : P.follows .mixedOrders = true)
    (hB : Region.mixB .any l.toArray fl = true) (h : ∀ W, Below w.heap.size w W → C W → wpMix P l.toArray C (fun a' W' => Q .normal a' W') (fl.zip l) a W) : (Code.region id l.toArray true).wp P Q a w := by
  simp only [Region.mixB, Bool.and_eq_true, decide_eq_true_eq] at hB
  obtain ⟨⟨hsel, hlen⟩, hgo⟩ := hB
  have hlen' : fl.length = l.length := by simpa using hlen
  have hzl : (fl.zip l).length = l.length := by simp [hlen']
  have hCd : C w.drew := hC _ _ h00 ((Below.refl _ _).drew)
  have H := wpAnyX_lex (md := .any) (mixes_plain P l.toArray C) hC (exo := mOpO P l.toArray) (fun {i o K a W} h0 h1 => by unfold mOp; simp only [h0]; exact h1) hsel (fl.zip l) 0 (Array.replicate l.toArray.size false) a w.drew
    (fun j hj => by
      rw [hzl] at hj
      rw [Nat.zero_add, ← List.getElem?_map, show (fl.zip l).map (·.2) = l by rw [List.map_snd_zip (by omega)], List.getElem?_toArray]) hCd
    (by rw [show (fl.zip l).map (·.1) = fl by rw [List.map_fst_zip (by omega)]]; exact hgo) (h _ ((Below.refl _ _).drew) hCd)
  rw [hzl] at H
  refine wp_region_any hm ?_
  have sound : ∀ (f : Nat) (listed : Array Bool) (a' : Act) (W : World), wpAnyX .any l.toArray C (mOp P l.toArray) (fun a' W' => Q .normal a' W') f listed a' W → wpAny P .any l.toArray Q f listed a' W := by
    intro f
    induction f with
    | zero => exact fun listed a' W h => ⟨h.1, h.2 W (Below.refl _ _)⟩
    | succ f ih =>
      intro listed a' W hL
      refine ⟨fun h0 => absurd h0 hL.1, fun i hi => ?_⟩
      have h1 := hL.2 i hi W (Below.refl _ _)
      unfold mOp at h1
      unfold wpOp
      cases ho : l.toArray[i]? with
      | none => simp only [ho] at h1 ⊢; exact ih _ _ _ h1.2
      | some o =>
        simp only [ho] at h1 ⊢
        split
        · rename_i hw
          rw [if_pos hw] at h1
          left
          unfold Oper.calm at h1
          unfold Oper.wp
          generalize (execOp a'.eval o).run P W = r at h1 ⊢
          cases r with
          | halt x w' => simp only [Oper.calmUpon] at h1
          | ok x w' =>
            cases x <;> simp only [Oper.calmUpon] at h1 <;> simp only [Oper.upon]
            case value u => exact ih _ _ _ h1.2
            case skip => exact ih _ _ _ h1.2
            case enter f' args =>
              refine h1.mono ?_
              rintro e W'' ⟨v, rfl, h2⟩
              exact ih _ _ _ h2.2
        · rename_i hw
          rw [if_neg hw] at h1
          exact ih _ _ _ h1.2
  have := sound _ _ _ _ H
  simpa using this
theorem wp_region_ord {P : Program} {id : Nat} {Q : Exit → Act → World → Prop} {a : Act} {w : World} {l : List Oper} (pl : List (Bool × Nat)) (C : World → Prop) (hC : ∀ W W', C W → Below W.heap.size W W' → C W') (h00 : C w) (hm : P.follows .mixedOrders = true)
    (hB : Region.ordB .any l.toArray pl = true) (h : ∀ W, Below w.heap.size w W → C W → wpMix P l.toArray C (fun a' W' => Q .normal a' W') (Region.picked l pl) a W) : (Code.region id l.toArray true).wp P Q a w := by
  simp only [Region.ordB, Bool.and_eq_true, decide_eq_true_eq, List.all_eq_true] at hB
  obtain ⟨⟨⟨hsel, hlen⟩, hlt⟩, hgo⟩ := hB
  have hCd : C w.drew := hC _ _ h00 ((Below.refl _ _).drew)
  have H := wpAnyX_ord (md := .any) (mixes_plain P l.toArray C) hC (exo := mOpO P l.toArray) (fun {i o K a W} h0 h1 => by unfold mOp; simp only [h0]; exact h1) hsel pl (Array.replicate l.toArray.size false) a w.drew
    hlt hCd hgo (h _ ((Below.refl _ _).drew) hCd)
  rw [hlen] at H
  refine wp_region_any hm ?_
  have sound : ∀ (f : Nat) (listed : Array Bool) (a' : Act) (W : World), wpAnyX .any l.toArray C (mOp P l.toArray) (fun a' W' => Q .normal a' W') f listed a' W → wpAny P .any l.toArray Q f listed a' W := by
    intro f
    induction f with
    | zero => exact fun listed a' W h => ⟨h.1, h.2 W (Below.refl _ _)⟩
    | succ f ih =>
      intro listed a' W hL
      refine ⟨fun h0 => absurd h0 hL.1, fun i hi => ?_⟩
      have h1 := hL.2 i hi W (Below.refl _ _)
      unfold mOp at h1
      unfold wpOp
      cases ho : l.toArray[i]? with
      | none => simp only [ho] at h1 ⊢; exact ih _ _ _ h1.2
      | some o =>
        simp only [ho] at h1 ⊢
        split
        · rename_i hw
          rw [if_pos hw] at h1
          left
          unfold Oper.calm at h1
          unfold Oper.wp
          generalize (execOp a'.eval o).run P W = r at h1 ⊢
          cases r with
          | halt x w' => simp only [Oper.calmUpon] at h1
          | ok x w' =>
            cases x <;> simp only [Oper.calmUpon] at h1 <;> simp only [Oper.upon]
            case value u => exact ih _ _ _ h1.2
            case skip => exact ih _ _ _ h1.2
            case enter f' args =>
              refine h1.mono ?_
              rintro e W'' ⟨v, rfl, h2⟩
              exact ih _ _ _ h2.2
        · rename_i hw
          rw [if_neg hw] at h1
          exact ih _ _ _ h1.2
  have := sound _ _ _ _ H
  simpa using this
end Go

/- THE SAME LAW INSIDE A FENCE (for iterators, whose rounds are called there). -/
set_option linter.unusedSimpArgs false
set_option linter.unusedVariables false
namespace Go
open Go.RowKit
def Oper.holdUpon (w : World) (v : Value) : Result Next → Prop
  | .ok (.value u) w' => w' = w ∧ u = v
  | .ok .skip w' => w' = w ∧ v = undef
  | _ => False
def Oper.holdAt (P : Program) (o : Oper) (a : Act) (w : World) (v : Value) : Prop := Oper.holdUpon w v ((execOp a.eval o).run P w)
def YieldsF (P : Program) (ops : Array Oper) (C : World → Prop) (o : Oper) (v : Value) (a : Act) : Prop :=
  ((Region.wanted o (yielded ops a.tmps) = true ∧ ∀ W, C W → o.holdAt P a W v) ∨ (Region.wanted o (yielded ops a.tmps) = false ∧ v = undef)) ∧ ∀ w, o.about P w a.eval = none
def Oper.calmUponIn (F : Fence) (n : Nat) (P : Program) (o : Oper) (a : Act) (K : Act → World → Prop) : Result Next → Prop
  | .ok (.value v) w' => K (a.put o.dst v) w'
  | .ok .skip w' => K (a.put o.dst undef) w'
  | .ok (.enter f args) w' => (F.depth.isSome = true → 1 ≤ n) ∧ CallsIn F (n - 1) P f args w' fun e w'' => ∃ v, e = .returned v ∧ K (a.put o.dst v) w''
  | .ok (.round l f tmps assign body) w' => (F.depth.isSome = true → 1 ≤ n) ∧ RoundIn F (n - 1) P l f tmps assign body w' fun e w'' => ∃ v, e = .returned v ∧ K (a.put o.dst v) w''
  | _ => False
def Oper.calmIn (F : Fence) (n : Nat) (P : Program) (o : Oper) (a : Act) (W : World) (K : Act → World → Prop) : Prop :=
  (∀ f, o.about P W a.eval = some f → F.fn f) ∧ o.calmUponIn F n P a K ((execOp a.eval o).run P W)
def mOpOIn (F : Fence) (n : Nat) (P : Program) (ops : Array Oper) (o : Oper) (K : Act → World → Prop) (a : Act) (W : World) : Prop :=
  if Region.wanted o (yielded ops a.tmps) then o.calmIn F n P a W K else (∀ f, o.about P W a.eval = some f → F.fn f) ∧ K (a.put o.dst undef) W
def mOpIn (F : Fence) (n : Nat) (P : Program) (ops : Array Oper) (i : Nat) (K : Act → World → Prop) (a : Act) (W : World) : Prop :=
  match ops[i]? with
  | none => K a W
  | some o => mOpOIn F n P ops o K a W
section
variable {F : Fence} {n : Nat} {P : Program} {ops : Array Oper} {C : World → Prop}
theorem Oper.calmUponIn_mono {o : Oper} {a : Act} {K K' : Act → World → Prop} (h : ∀ a w, K a w → K' a w) {r : Result Next} (hh : o.calmUponIn F n P a K r) : o.calmUponIn F n P a K' r := by
  cases r with
  | halt x w' => exact hh
  | ok x w' =>
    cases x <;> simp only [Oper.calmUponIn] at hh ⊢
    case value u => exact h _ _ hh
    case skip => exact h _ _ hh
    case enter f args => exact ⟨hh.1, hh.2.mono fun e w'' ⟨v, he, hk⟩ => ⟨v, he, h _ _ hk⟩⟩
    case round l f tmps assign body => exact ⟨hh.1, hh.2.mono fun e w'' ⟨v, he, hk⟩ => ⟨v, he, h _ _ hk⟩⟩
theorem mOpIn_mono {i : Nat} {a : Act} {W : World} {K K' : Act → World → Prop} (h : ∀ a w, K a w → K' a w) (hh : mOpIn F n P ops i K a W) : mOpIn F n P ops i K' a W := by
  unfold mOpIn at *
  split
  · exact h _ _ (by simpa [*] using hh)
  · rename_i o ho
    simp only [ho] at hh
    unfold mOpOIn at *
    split
    · rename_i hw; simp only [hw, if_true] at hh; exact ⟨hh.1, Oper.calmUponIn_mono h hh.2⟩
    · rename_i hw; simp only [hw] at hh; exact ⟨hh.1, h _ _ hh.2⟩
theorem mOpIn_quiet {i : Nat} {oi : Oper} {v : Value} {a : Act} {W : World} {K : Act → World → Prop} (hi : ops[i]? = some oi) (hy : YieldsF P ops C oi v a) (hb : C W) (h : ∀ W', Below W.heap.size W W' → K (a.put oi.dst v) W') : mOpIn F n P ops i K a W := by
  have hab : ∀ f, oi.about P W a.eval = some f → F.fn f := fun f hf => by rw [hy.2 W] at hf; cases hf
  unfold mOpIn mOpOIn
  simp only [hi]
  rcases hy.1 with ⟨hw, hv⟩ | ⟨hw, rfl⟩
  · simp only [hw, if_true]
    refine ⟨hab, ?_⟩
    have h5 := hv W hb
    unfold Oper.holdAt at h5
    generalize (execOp a.eval oi).run P W = r at h5 ⊢
    cases r with
    | halt x w' => simp only [Oper.holdUpon] at h5
    | ok x w' =>
      cases x <;> simp only [Oper.holdUpon] at h5 <;> simp only [Oper.calmUponIn]
      case value u => obtain ⟨rfl, rfl⟩ := h5; exact h _ (Below.refl _ _)
      case skip => obtain ⟨rfl, rfl⟩ := h5; exact h _ (Below.refl _ _)
  · simp only [hw, Bool.false_eq_true, if_false]
    exact ⟨hab, h _ (Below.refl _ _)⟩
theorem YieldsF.of_same {o : Oper} {v : Value} {a a' : Act} (hy : YieldsF P ops C o v a) (he : execOp a'.eval o = execOp a.eval o)
    (hw : Region.wanted o (yielded ops a'.tmps) = Region.wanted o (yielded ops a.tmps)) (hb : ∀ w, o.about P w a'.eval = o.about P w a.eval) : YieldsF P ops C o v a' := by
  refine ⟨?_, fun w => by rw [hb w]; exact hy.2 w⟩
  have h := hy.1
  unfold Oper.holdAt at *
  rw [he, hw]
  exact h
theorem mOpIn_put {j : Nat} {oi oj : Oper} {v : Value} (hj : ops[j]? = some oj) (hap : oi.apart ops oj = true)
    (hsi : ∀ cs b, oi.op ≠ .select cs b) (hsj : ∀ cs b, oj.op ≠ .select cs b) {K : Act → World → Prop} {a : Act} {W : World}
    (hy : YieldsF P ops C oi v a) (h : mOpIn F n P ops j K (a.put oi.dst v) W) :
    mOpIn F n P ops j (fun a' w' => YieldsF P ops C oi v a' ∧ K (a'.put oi.dst v) w') a W := by
  obtain ⟨h1, h2, h3⟩ := Oper.apart_spec hap
  have keep : ∀ (a : Act), YieldsF P ops C oi v a → ∀ u, YieldsF P ops C oi v (a.put oj.dst u) := fun a hy u =>
    hy.of_same (execOp_put oi hsi a oj.dst u h3) (wanted_put oi a oj.dst u h3) (fun w => about_put oi w a oj.dst u h3)
  unfold mOpIn mOpOIn at *
  simp only [hj] at *
  rw [wanted_put oj a oi.dst v h1, about_put oj W a oi.dst v h1] at h
  split
  · rename_i hw
    simp only [hw, if_true] at h
    refine ⟨by have := h.1; rwa [about_put oj W a oi.dst v h1] at this, ?_⟩
    have h := h.2
    rw [execOp_put oj hsj a oi.dst v h1] at h
    generalize (execOp a.eval oj).run P W = r at *
    cases r with
    | ok x w' =>
      cases x <;> simp only [Oper.calmUponIn] at h ⊢
      case value u => exact ⟨keep a hy u, by rw [← Act.put_comm a v u h2]; exact h⟩
      case skip => exact ⟨keep a hy _, by rw [← Act.put_comm a v undef h2]; exact h⟩
      case enter f args => exact ⟨h.1, h.2.mono fun e w'' ⟨u, he, hk⟩ => ⟨u, he, keep a hy u, by rw [← Act.put_comm a v u h2]; exact hk⟩⟩
      case round l f tmps assign body => exact ⟨h.1, h.2.mono fun e w'' ⟨u, he, hk⟩ => ⟨u, he, keep a hy u, by rw [← Act.put_comm a v u h2]; exact hk⟩⟩
    | halt x w' => simp only [Oper.calmUponIn] at h
  · rename_i hw
    simp only [hw] at h
    exact ⟨h.1, keep a hy _, by rw [← Act.put_comm a v undef h2]; exact h.2⟩
end
theorem mixes_in (F : Fence) (n : Nat) (P : Program) (ops : Array Oper) (C : World → Prop) : Mixes ops C (YieldsF P ops C) (mOpIn F n P ops) :=
  ⟨mOpIn_mono, fun hi hy hW h => mOpIn_quiet hi hy hW h, fun hj hap hsi hsj _ _ _ hy h => mOpIn_put hj hap hsi hsj hy h⟩
def wpMixIn (F : Fence) (n : Nat) (P : Program) (ops : Array Oper) (C : World → Prop) (L : Act → World → Prop) : List (Bool × Oper) → Act → World → Prop := wpMixX C (YieldsF P ops C) (mOpOIn F n P ops) L
section
variable {F : Fence} {n : Nat} {P : Program} {ops : Array Oper} {C : World → Prop} {L : Act → World → Prop} {a : Act} {W : World} {o : Oper} {rest : List (Bool × Oper)}
theorem wpMixIn_nil (h : ∀ W', Below W.heap.size W W' → L a W') : wpMixIn F n P ops C L [] a W := h
theorem wpMixIn_q (hg : o.guard = none) (hab : ∀ w, o.about P w a.eval = none) (h : ∀ K : Act → Prop, (∀ a, wpMixIn F n P ops C L rest a W → K a) → ∃ v, (∀ W', C W' → o.holdAt P a W' v) ∧ K (a.put o.dst v)) : wpMixIn F n P ops C L ((true, o) :: rest) a W := by
  obtain ⟨v, h1, h2⟩ := h _ (fun _ h => h)
  exact ⟨v, ⟨.inl ⟨by simp [Region.wanted, hg], h1⟩, hab⟩, h2⟩
/-- a quiet operation behind a guard that holds -/
theorem wpMixIn_qy (hab : ∀ w, o.about P w a.eval = none) (hw : Region.wanted o (yielded ops a.tmps) = true) (h : ∀ K : Act → Prop, (∀ a, wpMixIn F n P ops C L rest a W → K a) → ∃ v, (∀ W', C W' → o.holdAt P a W' v) ∧ K (a.put o.dst v)) : wpMixIn F n P ops C L ((true, o) :: rest) a W := by
  obtain ⟨v, h1, h2⟩ := h _ (fun _ h => h)
  exact ⟨v, ⟨.inl ⟨hw, h1⟩, hab⟩, h2⟩
/-- .. behind a guard that does not -/
theorem wpMixIn_qn (hab : ∀ w, o.about P w a.eval = none) (hw : Region.wanted o (yielded ops a.tmps) = false) (h : ∀ K : Act → Prop, (∀ a, wpMixIn F n P ops C L rest a W → K a) → K (a.put o.dst undef)) : wpMixIn F n P ops C L ((true, o) :: rest) a W :=
  ⟨undef, ⟨.inr ⟨hw, rfl⟩, hab⟩, h _ (fun _ h => h)⟩
theorem wpMixIn_s (hg : o.guard = none) (h : ∀ W', Below W.heap.size W W' → ∀ K : Act → World → Prop, (∀ a w, C w → wpMixIn F n P ops C L rest a w → K a w) → o.calmIn F n P a W' K) : wpMixIn F n P ops C L ((false, o) :: rest) a W := by
  intro W' hb
  unfold mOpOIn
  rw [if_pos (by simp [Region.wanted, hg])]
  exact h W' hb _ fun _ _ h1 h2 => ⟨h1, h2⟩
theorem wpMixIn_sy (hw : Region.wanted o (yielded ops a.tmps) = true) (h : ∀ W', Below W.heap.size W W' → ∀ K : Act → World → Prop, (∀ a w, C w → wpMixIn F n P ops C L rest a w → K a w) → o.calmIn F n P a W' K) : wpMixIn F n P ops C L ((false, o) :: rest) a W := by
  intro W' hb
  unfold mOpOIn
  rw [if_pos hw]
  exact h W' hb _ fun _ _ h1 h2 => ⟨h1, h2⟩
theorem wpMixIn_sn (hw : Region.wanted o (yielded ops a.tmps) = false) (hab : ∀ w, o.about P w a.eval = none) (h : ∀ W', Below W.heap.size W W' → ∀ K : Act → World → Prop, (∀ a w, C w → wpMixIn F n P ops C L rest a w → K a w) → K (a.put o.dst undef) W') : wpMixIn F n P ops C L ((false, o) :: rest) a W := by
  intro W' hb
  unfold mOpOIn
  rw [if_neg (by simp [hw])]
  exact ⟨(fun f hf => by rw [hab W'] at hf; cases hf), h W' hb (fun a'' W'' => C W'' ∧ wpMixX C (YieldsF P ops C) (mOpOIn F n P ops) L rest a'' W'') fun _ _ h1 h2 => ⟨h1, h2⟩⟩
end
def Region.noDefer (l : List Oper) : Bool := l.all fun o => match o.op with | .defer _ => false | _ => true
theorem Region.noDefer_spec {l : List Oper} (h : Region.noDefer l = true) {i : Nat} {o : Oper} (ho : l.toArray[i]? = some o) : ∀ c, o.op ≠ .defer c := by
  intro c hc
  rw [List.getElem?_toArray] at ho
  have := List.all_eq_true.1 h o (List.mem_of_getElem? ho)
  rw [hc] at this
  cases this
theorem wpIn_region_mix {F : Fence} {n : Nat} {P : Program} {id : Nat} {Q : Exit → Act → World → Prop} {a : Act} {w : World} {l : List Oper} (hnd : Region.noDefer l = true) (fl : List Bool) (C : World → Prop) (hC : ∀ W W', C W → Below W.heap.size W W' → C W') (h00 : C w) (hm : P.follows .mixedOrders = true)
    (hB : Region.mixB .any l.toArray fl = true) (h : ∀ W, Below w.heap.size w W → C W → wpMixIn F n P l.toArray C (fun a' W' => Q .normal a' W') (fl.zip l) a W) : (Code.region id l.toArray true).wpIn F n P Q a w := by
  simp only [Region.mixB, Bool.and_eq_true, decide_eq_true_eq] at hB
  obtain ⟨⟨hsel, hlen⟩, hgo⟩ := hB
  have hlen' : fl.length = l.length := by simpa using hlen
  have hzl : (fl.zip l).length = l.length := by simp [hlen']
  have hCd : C w.drew := hC _ _ h00 ((Below.refl _ _).drew)
  have H := wpAnyX_lex (md := .any) (mixes_in F n P l.toArray C) hC (exo := mOpOIn F n P l.toArray) (fun {i o K a W} h0 h1 => by unfold mOpIn; simp only [h0]; exact h1) hsel (fl.zip l) 0 (Array.replicate l.toArray.size false) a w.drew
    (fun j hj => by
      rw [hzl] at hj
      rw [Nat.zero_add, ← List.getElem?_map, show (fl.zip l).map (·.2) = l by rw [List.map_snd_zip (by omega)], List.getElem?_toArray]) hCd
    (by rw [show (fl.zip l).map (·.1) = fl by rw [List.map_fst_zip (by omega)]]; exact hgo) (h _ ((Below.refl _ _).drew) hCd)
  rw [hzl] at H
  refine wpIn_region_any hm ?_
  have sound : ∀ (f : Nat) (listed : Array Bool) (a' : Act) (W : World), wpAnyX .any l.toArray C (mOpIn F n P l.toArray) (fun a' W' => Q .normal a' W') f listed a' W → wpAnyIn F n P .any l.toArray Q f listed a' W := by
    intro f
    induction f with
    | zero => exact fun listed a' W h => ⟨h.1, h.2 W (Below.refl _ _)⟩
    | succ f ih =>
      intro listed a' W hL
      refine ⟨fun h0 => absurd h0 hL.1, fun i hi => ?_⟩
      have h1 := hL.2 i hi W (Below.refl _ _)
      unfold mOpIn at h1
      unfold wpOpIn
      cases ho : l.toArray[i]? with
      | none => simp only [ho] at h1 ⊢; exact ih _ _ _ h1.2
      | some o =>
        simp only [ho] at h1 ⊢
        unfold mOpOIn at h1
        split
        · rename_i hw
          rw [if_pos hw] at h1
          refine ⟨h1.1, ?_⟩
          have h1 := h1.2
          rw [Oper.semAt_eq _ _ _ (Region.noDefer_spec hnd ho)]
          generalize (execOp a'.eval o).run P W = r at h1 ⊢
          cases r with
          | halt x w' => simp only [Oper.calmUponIn] at h1
          | ok x w' =>
            cases x <;> simp only [Oper.calmUponIn] at h1 <;> simp only [Oper.uponIn]
            case value u => exact ih _ _ _ h1.2
            case skip => exact ih _ _ _ h1.2
            case enter f' args =>
              refine ⟨h1.1, h1.2.mono ?_⟩
              rintro e W'' ⟨v, rfl, h2⟩
              exact ih _ _ _ h2.2
            case round l' f' tmps assign body =>
              refine ⟨h1.1, h1.2.mono ?_⟩
              rintro e W'' ⟨v, rfl, h2⟩
              exact ih _ _ _ h2.2
        · rename_i hw
          rw [if_neg hw] at h1
          exact ⟨h1.1, ih _ _ _ h1.2.2⟩
  have := sound _ _ _ _ H
  simpa using this
theorem wpIn_region_ord {F : Fence} {n : Nat} {P : Program} {id : Nat} {Q : Exit → Act → World → Prop} {a : Act} {w : World} {l : List Oper} (hnd : Region.noDefer l = true) (pl : List (Bool × Nat)) (C : World → Prop) (hC : ∀ W W', C W → Below W.heap.size W W' → C W') (h00 : C w) (hm : P.follows .mixedOrders = true)
    (hB : Region.ordB .any l.toArray pl = true) (h : ∀ W, Below w.heap.size w W → C W → wpMixIn F n P l.toArray C (fun a' W' => Q .normal a' W') (Region.picked l pl) a W) : (Code.region id l.toArray true).wpIn F n P Q a w := by
  simp only [Region.ordB, Bool.and_eq_true, decide_eq_true_eq, List.all_eq_true] at hB
  obtain ⟨⟨⟨hsel, hlen⟩, hlt⟩, hgo⟩ := hB
  have hCd : C w.drew := hC _ _ h00 ((Below.refl _ _).drew)
  have H := wpAnyX_ord (md := .any) (mixes_in F n P l.toArray C) hC (exo := mOpOIn F n P l.toArray) (fun {i o K a W} h0 h1 => by unfold mOpIn; simp only [h0]; exact h1) hsel pl (Array.replicate l.toArray.size false) a w.drew
    hlt hCd hgo (h _ ((Below.refl _ _).drew) hCd)
  rw [hlen] at H
  refine wpIn_region_any hm ?_
  have sound : ∀ (f : Nat) (listed : Array Bool) (a' : Act) (W : World), wpAnyX .any l.toArray C (mOpIn F n P l.toArray) (fun a' W' => Q .normal a' W') f listed a' W → wpAnyIn F n P .any l.toArray Q f listed a' W := by
    intro f
    induction f with
    | zero => exact fun listed a' W h => ⟨h.1, h.2 W (Below.refl _ _)⟩
    | succ f ih =>
      intro listed a' W hL
      refine ⟨fun h0 => absurd h0 hL.1, fun i hi => ?_⟩
      have h1 := hL.2 i hi W (Below.refl _ _)
      unfold mOpIn at h1
      unfold wpOpIn
      cases ho : l.toArray[i]? with
      | none => simp only [ho] at h1 ⊢; exact ih _ _ _ h1.2
      | some o =>
        simp only [ho] at h1 ⊢
        unfold mOpOIn at h1
        split
        · rename_i hw
          rw [if_pos hw] at h1
          refine ⟨h1.1, ?_⟩
          have h1 := h1.2
          rw [Oper.semAt_eq _ _ _ (Region.noDefer_spec hnd ho)]
          generalize (execOp a'.eval o).run P W = r at h1 ⊢
          cases r with
          | halt x w' => simp only [Oper.calmUponIn] at h1
          | ok x w' =>
            cases x <;> simp only [Oper.calmUponIn] at h1 <;> simp only [Oper.uponIn]
            case value u => exact ih _ _ _ h1.2
            case skip => exact ih _ _ _ h1.2
            case enter f' args =>
              refine ⟨h1.1, h1.2.mono ?_⟩
              rintro e W'' ⟨v, rfl, h2⟩
              exact ih _ _ _ h2.2
            case round l' f' tmps assign body =>
              refine ⟨h1.1, h1.2.mono ?_⟩
              rintro e W'' ⟨v, rfl, h2⟩
              exact ih _ _ _ h2.2
        · rename_i hw
          rw [if_neg hw] at h1
          exact ⟨h1.1, ih _ _ _ h1.2.2⟩
  have := sound _ _ _ _ H
  simpa using this
end Go

/- THE SAME LAW IN SEGMENTS: behind each segment the class of worlds may be another one. -/
set_option linter.unusedSimpArgs false
set_option linter.unusedVariables false
namespace Go
open Go.RowKit
section
variable {ops : Array Oper} {md : Region.Mode} {C : World → Prop} {Y : Oper → Value → Act → Prop} {ex : Nat → (Act → World → Prop) → Act → World → Prop} {m : Nat}
structure Shut (md : Region.Mode) (ops : Array Oper) (listed : Array Bool) : Prop where
  size : listed.size = ops.size
  closed : ∀ j oj, ops[j]? = some oj → listed.getD j false = true → ∀ e ∈ oj.after, Region.binds md e = true → listed.getD e.on false = true
theorem Shut.none (md : Region.Mode) (ops : Array Oper) : Shut md ops (Array.replicate ops.size false) := ⟨by simp, fun j oj _ hl => (by rw [getD_replicate_false] at hl; cases hl)⟩
theorem Shut.set {i : Nat} {listed : Array Bool} (inv : Shut md ops listed) (hi : i ∈ Region.ready md ops listed) : Shut md ops (listed.setIfInBounds i true) := by
  obtain ⟨_, oi, hoi, hall⟩ := mem_ready.1 hi
  refine ⟨by simp [inv.size], fun j oj hj hl e he hb => ?_⟩
  by_cases hij : i = j
  · subst hij
    rw [hoi] at hj
    cases hj
    exact getD_set_true (hall e he hb)
  · rw [getD_set_ne false hij] at hl
    exact getD_set_true (inv.closed j oj hj hl e he hb)
/-- whatever stands at m or behind waits for all that stands ahead of m -/
def Region.barB (md : Region.Mode) (ops : Array Oper) (m : Nat) : Bool :=
  Region.sinkB md ops (m - 1) && (List.range ops.size).all fun j => decide (j < m) || (List.range j).any fun i => decide (m - 1 ≤ i) && Region.waitsFor md ops j i
theorem bar_waits {listed : Array Bool} (h : Region.barB md ops m = true) (inv : Shut md ops listed) {j : Nat} (hj : m ≤ j) (hr : j ∈ Region.ready md ops listed) : ∀ i, i < m → listed.getD i false = true := by
  simp only [Region.barB, Bool.and_eq_true, List.all_eq_true, List.mem_range, Bool.or_eq_true, decide_eq_true_eq, List.any_eq_true] at h
  obtain ⟨hs, hb⟩ := h
  have hm : 0 < m → listed.getD (m - 1) false = true := by
    intro hm0
    have key : ∀ d j, j = d → m ≤ j → (∃ oj, ops[j]? = some oj ∧ ∀ e ∈ oj.after, Region.binds md e = true → listed.getD e.on false = true) → listed.getD (m - 1) false = true := by
      intro d
      induction d using Nat.strongRecOn with
      | _ d ih =>
        intro j hd hj hall
        obtain ⟨oj, hoj, hall⟩ := hall
        rcases hb j (Array.getElem?_eq_some_iff.1 hoj).1 with h1 | ⟨i, hi, hmi, hw⟩
        · omega
        · obtain ⟨oj', hoj', e, he, hbd, heo⟩ := Region.waitsFor_spec hw
          rw [hoj] at hoj'
          cases hoj'
          have hl := hall e he hbd
          rw [heo] at hl
          by_cases hi2 : i = m - 1
          · rw [← hi2]; exact hl
          · have hlt : i < ops.size := by
              rcases Nat.lt_or_ge i ops.size with h3 | h3
              · exact h3
              · rw [Array.getD_eq_getD_getElem?, Array.getElem?_eq_none (by rw [inv.size]; exact h3)] at hl
                simp at hl
            exact ih i (by omega) i rfl (by omega) ⟨ops[i], Array.getElem?_eq_getElem hlt, fun e he hb => inv.closed i _ (Array.getElem?_eq_getElem hlt) hl e he hb⟩
    obtain ⟨_, oj, hoj, hall⟩ := mem_ready.1 hr
    exact key j j rfl hj ⟨oj, hoj, hall⟩
  simp only [Region.sinkB, List.all_eq_true, List.mem_range, List.any_eq_true, Bool.and_eq_true, decide_eq_true_eq] at hs
  have down : ∀ d i, m - 1 - i = d → i < m → listed.getD i false = true := by
    intro d
    induction d using Nat.strongRecOn with
    | _ d ih =>
      intro i hd hi
      by_cases h1 : i = m - 1
      · rw [h1]; exact hm (by omega)
      · obtain ⟨k, hk, hik, hw⟩ := hs i (by omega)
        obtain ⟨ok, hok, e, he, hbd, heo⟩ := Region.waitsFor_spec hw
        have := inv.closed k ok hok (ih (m - 1 - k) (by omega) k rfl (by omega)) e he hbd
        rwa [heo] at this
  exact fun i hi => down _ i rfl hi

/-- the last one of a segment may be whatever ends the class -/
def wpMixE (C : World → Prop) (Yv : Oper → Value → Act → Prop) (exo : Oper → (Act → World → Prop) → Act → World → Prop) (L : Act → World → Prop) : List (Bool × Oper) → Act → World → Prop
  | [], a, W => ∀ W', Below W.heap.size W W' → L a W'
  | (true, o) :: rest, a, W => ∃ v, Yv o v a ∧ wpMixE C Yv exo L rest (a.put o.dst v) W
  | (false, o) :: rest, a, W => ∀ W', Below W.heap.size W W' → exo o (fun a'' W'' => (rest = [] ∨ C W'') ∧ wpMixE C Yv exo L rest a'' W'') a W'
theorem last_waits {listed : Array Bool} (h : Region.barB md ops m = true) (inv : Shut md ops listed) {j : Nat} (hj : j + 1 = m) (hr : j ∈ Region.ready md ops listed) : ∀ i, i < j → listed.getD i false = true := by
  simp only [Region.barB, Bool.and_eq_true] at h
  have hs := h.1
  simp only [Region.sinkB, List.all_eq_true, List.mem_range, List.any_eq_true, Bool.and_eq_true, decide_eq_true_eq] at hs
  obtain ⟨_, oj, hoj, hall⟩ := mem_ready.1 hr
  have down : ∀ d i, j - i = d → i < j → listed.getD i false = true := by
    intro d
    induction d using Nat.strongRecOn with
    | _ d ih =>
      intro i hd hi
      obtain ⟨k, hk, hik, hw⟩ := hs i (by omega)
      obtain ⟨ok, hok, e, he, hbd, heo⟩ := Region.waitsFor_spec hw
      by_cases hkj : k = j
      · subst hkj
        rw [hoj] at hok
        cases hok
        have := hall e he hbd
        rwa [heo] at this
      · have := inv.closed k ok hok (ih (j - k) (by omega) k rfl (by omega)) e he hbd
        rwa [heo] at this
  exact fun i hi => down _ i rfl hi
def wpAnyB (md : Region.Mode) (ops : Array Oper) (C : World → Prop) (ex : Nat → (Act → World → Prop) → Act → World → Prop) (m : Nat) (L : Array Bool → Act → World → Prop) : Nat → Array Bool → Act → World → Prop
  | 0, listed, a, W => ∀ W', Below W.heap.size W W' → L listed a W'
  | f + 1, listed, a, W =>
    Region.ready md ops listed ≠ [] ∧ ∀ i ∈ Region.ready md ops listed, i < m ∧ ∀ W', Below W.heap.size W W' →
      ex i (fun a' W'' => (i + 1 = m ∨ C W'') ∧ wpAnyB md ops C ex m L f (listed.setIfInBounds i true) a' W'') a W'
theorem wpAnyB_grow {L : Array Bool → Act → World → Prop} : ∀ {f : Nat} {listed : Array Bool} {a : Act} {W W1 : World}, Below W.heap.size W W1 → wpAnyB md ops C ex m L f listed a W → wpAnyB md ops C ex m L f listed a W1
  | 0, _, _, _, _, hb, h => fun W' hb' => h W' (hb.trans (hb'.mono hb.size))
  | f + 1, _, _, _, _, hb, h => ⟨h.1, fun i hi => ⟨(h.2 i hi).1, fun W' hb' => (h.2 i hi).2 W' (hb.trans (hb'.mono hb.size))⟩⟩
theorem wpAnyB_first (M : Mixes ops C Y ex) (hC : ∀ W W', C W → Below W.heap.size W W' → C W') {i : Nat} {oi : Oper} {v : Value} {L : Array Bool → Act → World → Prop} (hi : ops[i]? = some oi)
    (hsel : ∀ (j : Nat) (o : Oper) cs b, ops[j]? = some o → o.op ≠ .select cs b) (hbar : Region.barB md ops m = true) (hin : i < m)
    (hdone : ∀ listed a W, L listed a W → ∀ j ∈ Region.ready md ops listed, m ≤ j) :
    ∀ (f : Nat) (listed : Array Bool) (a : Act) (W : World), Shut md ops listed → C W →
      (∀ j oj, ops[j]? = some oj → j ≠ i → listed.getD j true = false → (∀ e ∈ oj.after, Region.binds md e = true → e.on ≠ i) → oi.apart ops oj = true) →
      i ∈ Region.ready md ops listed → Y oi v a →
      wpAnyB md ops C ex m L f (listed.setIfInBounds i true) (a.put oi.dst v) W → wpAnyB md ops C ex m L (f + 1) listed a W := by
  have below : ∀ (listed : Array Bool), Shut md ops listed → i ∈ Region.ready md ops listed → ∀ j ∈ Region.ready md ops listed, j < m := fun listed inv hr j hj => by
    rcases Nat.lt_or_ge j m with h | h
    · exact h
    · have h1 := bar_waits hbar inv h hj i hin
      rw [getD_both (mem_ready.1 hr).1] at h1
      cases h1
  intro f
  induction f with
  | zero =>
    intro listed a W inv hW _ hr hy H
    refine ⟨fun h => (by rw [h] at hr; cases hr), fun j hj => ⟨below listed inv hr j hj, fun W' hb => ?_⟩⟩
    by_cases hji : j = i
    · subst hji
      refine M.quiet hi hy (hC _ _ hW hb) fun W'' hb2 => ⟨.inr (hC _ _ (hC _ _ hW hb) hb2), ?_⟩
      exact wpAnyB_grow (f := 0) (hb.trans (hb2.mono hb.size)) H
    · have := hdone _ _ _ (H W (Below.refl _ _)) j (ready_mono hj hji)
      have := below listed inv hr j hj
      omega
  | succ f ih =>
    intro listed a W inv hW hfree hr hy H
    have hun := (mem_ready.1 hr).1
    refine ⟨fun h => (by rw [h] at hr; cases hr), fun j hj => ⟨below listed inv hr j hj, fun W' hb => ?_⟩⟩
    by_cases hji : j = i
    · subst hji
      refine M.quiet hi hy (hC _ _ hW hb) fun W'' hb2 => ⟨.inr (hC _ _ (hC _ _ hW hb) hb2), ?_⟩
      exact wpAnyB_grow (hb.trans (hb2.mono hb.size)) H
    · have h1 := (H.2 j (ready_mono hj hji)).2 W' hb
      obtain ⟨hjun, oj, hoj, hall⟩ := mem_ready.1 hj
      have hnot : ∀ e ∈ oj.after, Region.binds md e = true → e.on ≠ i := fun e he hb heq => by
        have h1 := hall e he hb
        rw [heq, getD_both hun] at h1
        cases h1
      have h2 := M.put hoj (hfree j oj hoj hji hjun hnot) (fun cs b => hsel i oi cs b hi) (fun cs b => hsel j oj cs b hoj) hy h1
      have hfree' : ∀ k ok, ops[k]? = some ok → k ≠ i → (listed.setIfInBounds j true).getD k true = false →
          (∀ e ∈ ok.after, Region.binds md e = true → e.on ≠ i) → oi.apart ops ok = true := fun k ok hk hki hun hno => by
        refine hfree k ok hk hki ?_ hno
        by_cases hjk : j = k
        · subst hjk; exact hjun
        · rw [getD_set_ne true hjk] at hun; exact hun
      refine M.mono (fun a' W'' h3 => ?_) h2
      have hCW : C W'' := by
        rcases h3.2.1 with h4 | h4
        · have h5 := last_waits hbar inv h4 hj i (by
            have : i ≠ j := Ne.symm hji
            omega)
          rw [getD_both hun] at h5
          cases h5
        · exact h4
      refine ⟨.inr hCW, ih (listed.setIfInBounds j true) a' W'' (inv.set hj) hCW hfree' (ready_mono hr (Ne.symm hji)) h3.1 ?_⟩
      rw [Array.setIfInBounds_comm _ _ hji]
      exact h3.2.2
/-- a segment's form; behind it: what is left stands at m or behind -/
def Region.segGo (md : Region.Mode) (ops : Array Oper) (m : Nat) (after : Array Bool → Bool) : List Bool → Nat → Array Bool → Bool
  | [], k, listed => decide (k = m) && (Region.ready md ops listed).all (fun j => decide (m ≤ j)) && after listed
  | true :: fl, k, listed => decide (k < m) && (Region.ready md ops listed).contains k && Region.free md ops listed k && Region.segGo md ops m after fl (k + 1) (listed.setIfInBounds k true)
  | false :: fl, k, listed => decide (k < m) && decide (Region.ready md ops listed = [k]) && Region.segGo md ops m after fl (k + 1) (listed.setIfInBounds k true)
theorem wpAnyB_lex (M : Mixes ops C Y ex) (hC : ∀ W W', C W → Below W.heap.size W W' → C W') {exo : Oper → (Act → World → Prop) → Act → World → Prop} (hex : ∀ {i : Nat} {o : Oper} {K : Act → World → Prop} {a : Act} {W : World}, ops[i]? = some o → exo o K a W → ex i K a W)
    {L : Act → World → Prop} (hsel : Region.noSelect ops = true) (hbar : Region.barB md ops m = true) (aft : Array Bool → Bool) :
    ∀ (l : List (Bool × Oper)) (k : Nat) (listed : Array Bool) (a : Act) (W : World), (∀ j, j < l.length → (l[j]?).map (·.2) = ops[k + j]?) → Shut md ops listed → C W →
    Region.segGo md ops m aft (l.map (·.1)) k listed = true → wpMixE C Y exo L l a W →
    wpAnyB md ops C ex m (fun listed' a' W' => ((Region.ready md ops listed').all (fun j => decide (m ≤ j)) = true ∧ aft listed' = true ∧ Shut md ops listed') ∧ L a' W') l.length listed a W
  | [], k, listed, a, W, hl, inv, hW, hB, h => by
    simp only [List.map_nil, Region.segGo, Bool.and_eq_true] at hB
    exact fun W' hb => ⟨⟨hB.1.2, hB.2, inv⟩, h W' hb⟩
  | (true, o) :: l, k, listed, a, W, hl, inv, hW, hB, h => by
    have h0 : ops[k]? = some o := by simpa using (hl 0 (by simp)).symm
    simp only [List.map_cons, Region.segGo, Bool.and_eq_true, decide_eq_true_eq] at hB
    obtain ⟨⟨⟨hk, hr⟩, hf⟩, hB'⟩ := hB
    have hr' : k ∈ Region.ready md ops listed := by simpa using hr
    obtain ⟨v, hy, hK⟩ := h
    exact wpAnyB_first M hC h0 (Region.noSelect_spec hsel) hbar hk (fun listed' a' W' hL j hj => by have := List.all_eq_true.1 hL.1.1 j hj; simpa using this) l.length listed a W inv hW (Region.free_spec h0 hf) hr' hy
      (wpAnyB_lex M hC hex hsel hbar aft l (k + 1) _ _ W (fun j hj => by have := hl (j + 1) (by simp only [List.length_cons]; omega); simpa [Nat.add_assoc, Nat.add_comm 1 j] using this) (inv.set hr') hW hB' hK)
  | (false, o) :: l, k, listed, a, W, hl, inv, hW, hB, h => by
    have h0 : ops[k]? = some o := by simpa using (hl 0 (by simp)).symm
    simp only [List.map_cons, Region.segGo, Bool.and_eq_true, decide_eq_true_eq] at hB
    obtain ⟨⟨hk, hr⟩, hB'⟩ := hB
    refine ⟨fun h1 => (by rw [hr] at h1; cases h1), fun i hi => ?_⟩
    have hi' := hi
    rw [hr] at hi
    have hik : i = k := by simpa using hi
    subst hik
    refine ⟨hk, fun W' hb => M.mono (fun a' W'' h3 => ?_) (hex h0 (h W' hb))⟩
    have hk' : l = [] → i + 1 = m := fun e => by
      subst e
      simp only [List.map_nil, Region.segGo, Bool.and_eq_true, decide_eq_true_eq] at hB'
      exact hB'.1.1
    refine ⟨h3.1.imp hk' id, ?_⟩
    rcases h3.1 with h4 | h4
    · subst h4
      simp only [List.map_nil, Region.segGo, Bool.and_eq_true, decide_eq_true_eq] at hB'
      exact fun W3 hb3 => ⟨⟨hB'.1.2, hB'.2, inv.set hi'⟩, h3.2 W3 hb3⟩
    · exact wpAnyB_lex M hC hex hsel hbar aft l (i + 1) _ a' W'' (fun j hj => by have := hl (j + 1) (by simp only [List.length_cons]; omega); simpa [Nat.add_assoc, Nat.add_comm 1 j] using this) (inv.set hi') h4 hB' h3.2
end
/-- the segments, one behind the other -/
def wpSegX (Yof : (World → Prop) → Oper → Value → Act → Prop) (exo : Oper → (Act → World → Prop) → Act → World → Prop) (L : Act → World → Prop) : List (List (Bool × Oper)) → Act → World → Prop
  | [], a, W => ∀ W', Below W.heap.size W W' → L a W'
  | s :: ss, a, W => ∃ C : World → Prop, (∀ W W', C W → Below W.heap.size W W' → C W') ∧ C W ∧ wpMixE C (Yof C) exo (fun a' W' => wpSegX Yof exo L ss a' W') s a W
def Region.segsGo (md : Region.Mode) (ops : Array Oper) : List (List Bool) → Nat → Array Bool → Bool
  | [], _, listed => (Region.ready md ops listed).isEmpty
  | fl :: fls, k, listed => Region.barB md ops (k + fl.length) && Region.segGo md ops (k + fl.length) (fun listed' => Region.segsGo md ops fls (k + fl.length) listed') fl k listed
theorem segs_sound {ops : Array Oper} {md : Region.Mode} {Yof : (World → Prop) → Oper → Value → Act → Prop} {ex : Nat → (Act → World → Prop) → Act → World → Prop} {exo : Oper → (Act → World → Prop) → Act → World → Prop} {L : Act → World → Prop}
    (M : ∀ C, Mixes ops C (Yof C) ex) (hex : ∀ {i : Nat} {o : Oper} {K : Act → World → Prop} {a : Act} {W : World}, ops[i]? = some o → exo o K a W → ex i K a W) (hsel : Region.noSelect ops = true)
    {T : Nat → Array Bool → Act → World → Prop} (hT0 : ∀ {listed a W}, Region.ready md ops listed = [] → L a W → T 0 listed a W)
    (hTs : ∀ {f listed a W}, Region.ready md ops listed ≠ [] → (∀ i ∈ Region.ready md ops listed, ex i (fun a' W' => T f (listed.setIfInBounds i true) a' W') a W) → T (f + 1) listed a W) :
    ∀ (ss : List (List (Bool × Oper))) (k : Nat) (listed : Array Bool) (a : Act) (W : World), (∀ j, j < ss.flatten.length → (ss.flatten[j]?).map (·.2) = ops[k + j]?) → Shut md ops listed →
    Region.segsGo md ops (ss.map fun s => s.map (·.1)) k listed = true → wpSegX Yof exo L ss a W → T ss.flatten.length listed a W
  | [], k, listed, a, W, hl, inv, hB, h => hT0 (by simpa [Region.segsGo] using hB) (h W (Below.refl _ _))
  | s :: ss, k, listed, a, W, hl, inv, hB, h => by
    obtain ⟨C, hC, hW, h⟩ := h
    simp only [List.map_cons, Region.segsGo, List.length_map, Bool.and_eq_true] at hB
    obtain ⟨hbar, hgo⟩ := hB
    have H := wpAnyB_lex (M C) hC hex hsel hbar _ s k listed a W (fun j hj => by
      have := hl j (by simp only [List.flatten_cons, List.length_append]; omega)
      rw [List.flatten_cons, List.getElem?_append_left hj] at this
      exact this) inv hW hgo h
    have go : ∀ (f : Nat) (listed : Array Bool) (a : Act) (W : World), wpAnyB md ops C ex (k + s.length) (fun listed' a' W' => ((Region.ready md ops listed').all (fun j => decide (k + s.length ≤ j)) = true ∧ Region.segsGo md ops (ss.map fun s => s.map (·.1)) (k + s.length) listed' = true ∧ Shut md ops listed') ∧ wpSegX Yof exo L ss a' W') f listed a W → T (f + ss.flatten.length) listed a W := by
      intro f
      induction f with
      | zero =>
        intro listed a W h
        obtain ⟨⟨_, h2, h3⟩, h4⟩ := h W (Below.refl _ _)
        rw [Nat.zero_add]
        exact segs_sound M hex hsel hT0 hTs ss (k + s.length) listed a W (fun j hj => by
          have := hl (s.length + j) (by simp only [List.flatten_cons, List.length_append]; omega)
          rw [List.flatten_cons, List.getElem?_append_right (by omega), Nat.add_sub_cancel_left] at this
          rw [this, Nat.add_assoc]) h3 h2 h4
      | succ f ih =>
        intro listed a W h
        rw [show f + 1 + ss.flatten.length = (f + ss.flatten.length) + 1 by omega]
        exact hTs h.1 fun i hi => (M C).mono (fun a' W' h3 => ih _ _ _ h3.2) ((h.2 i hi).2 W (Below.refl _ _))
    have := go s.length listed a W H
    rwa [List.flatten_cons, List.length_append]
def Region.segsB (md : Region.Mode) (ops : Array Oper) (fls : List (List Bool)) : Bool := Region.noSelect ops && decide (fls.flatten.length = ops.size) && Region.segsGo md ops fls 0 (Array.replicate ops.size false)
/-- operations, parted as the flags are -/
def Region.parted : List (List Bool) → List Oper → List (List (Bool × Oper))
  | [], _ => []
  | fl :: fls, l => fl.zip l :: Region.parted fls (l.drop fl.length)
theorem Region.parted_flatten : ∀ (fls : List (List Bool)) (l : List Oper), fls.flatten.length = l.length → (Region.parted fls l).flatten = fls.flatten.zip l ∧ (Region.parted fls l).map (fun s => s.map (·.1)) = fls
  | [], l, h => by
    have : l = [] := List.length_eq_zero_iff.1 (by simpa using h.symm)
    subst this
    exact ⟨rfl, rfl⟩
  | fl :: fls, l, h => by
    simp only [List.flatten_cons, List.length_append] at h
    have hle : fl.length ≤ l.length := by omega
    obtain ⟨h1, h2⟩ := Region.parted_flatten fls (l.drop fl.length) (by rw [List.length_drop]; omega)
    refine ⟨?_, ?_⟩
    · rw [Region.parted, List.flatten_cons, h1, List.flatten_cons]
      conv => rhs; rw [← List.take_append_drop fl.length l]
      rw [List.zip_append (by rw [List.length_take]; omega)]
      congr 1
      conv => lhs; rw [← List.take_append_drop fl.length l]
      rw [show fl.zip (l.take fl.length ++ l.drop fl.length) = (fl ++ []).zip (l.take fl.length ++ l.drop fl.length) by rw [List.append_nil], List.zip_append (by rw [List.length_take]; omega)]
      simp
    · rw [Region.parted, List.map_cons, h2, List.map_fst_zip (by omega)]
section
variable {F : Fence} {n : Nat} {P : Program}
def wpMixEIn (F : Fence) (n : Nat) (P : Program) (ops : Array Oper) (C : World → Prop) (L : Act → World → Prop) : List (Bool × Oper) → Act → World → Prop := wpMixE C (YieldsF P ops C) (mOpOIn F n P ops) L
section
variable {ops : Array Oper} {C : World → Prop} {L : Act → World → Prop} {a : Act} {W : World} {o : Oper} {rest : List (Bool × Oper)}
theorem wpMixEIn_nil (h : ∀ W', Below W.heap.size W W' → L a W') : wpMixEIn F n P ops C L [] a W := h
theorem wpMixEIn_q (hg : o.guard = none) (hab : ∀ w, o.about P w a.eval = none) (h : ∀ K : Act → Prop, (∀ a, wpMixEIn F n P ops C L rest a W → K a) → ∃ v, (∀ W', C W' → o.holdAt P a W' v) ∧ K (a.put o.dst v)) : wpMixEIn F n P ops C L ((true, o) :: rest) a W := by
  obtain ⟨v, h1, h2⟩ := h _ (fun _ h => h)
  exact ⟨v, ⟨.inl ⟨by simp [Region.wanted, hg], h1⟩, hab⟩, h2⟩
theorem wpMixEIn_qy (hab : ∀ w, o.about P w a.eval = none) (hw : Region.wanted o (yielded ops a.tmps) = true) (h : ∀ K : Act → Prop, (∀ a, wpMixEIn F n P ops C L rest a W → K a) → ∃ v, (∀ W', C W' → o.holdAt P a W' v) ∧ K (a.put o.dst v)) : wpMixEIn F n P ops C L ((true, o) :: rest) a W := by
  obtain ⟨v, h1, h2⟩ := h _ (fun _ h => h)
  exact ⟨v, ⟨.inl ⟨hw, h1⟩, hab⟩, h2⟩
theorem wpMixEIn_qn (hab : ∀ w, o.about P w a.eval = none) (hw : Region.wanted o (yielded ops a.tmps) = false) (h : ∀ K : Act → Prop, (∀ a, wpMixEIn F n P ops C L rest a W → K a) → K (a.put o.dst undef)) : wpMixEIn F n P ops C L ((true, o) :: rest) a W :=
  ⟨undef, ⟨.inr ⟨hw, rfl⟩, hab⟩, h _ (fun _ h => h)⟩
theorem wpMixEIn_s (hg : o.guard = none) (h : ∀ W', Below W.heap.size W W' → ∀ K : Act → World → Prop, (∀ a w, (rest = [] ∨ C w) → wpMixEIn F n P ops C L rest a w → K a w) → o.calmIn F n P a W' K) : wpMixEIn F n P ops C L ((false, o) :: rest) a W := by
  intro W' hb
  have hw : Region.wanted o (yielded ops a.tmps) = true := by simp [Region.wanted, hg]
  have h2 := h W' hb (fun a'' W'' => (rest = [] ∨ C W'') ∧ wpMixEIn F n P ops C L rest a'' W'') fun _ _ h1 h2 => ⟨h1, h2⟩
  unfold mOpOIn
  rw [if_pos hw]
  exact h2
theorem wpMixEIn_sy (hw : Region.wanted o (yielded ops a.tmps) = true) (h : ∀ W', Below W.heap.size W W' → ∀ K : Act → World → Prop, (∀ a w, (rest = [] ∨ C w) → wpMixEIn F n P ops C L rest a w → K a w) → o.calmIn F n P a W' K) : wpMixEIn F n P ops C L ((false, o) :: rest) a W := by
  intro W' hb
  have h2 := h W' hb (fun a'' W'' => (rest = [] ∨ C W'') ∧ wpMixEIn F n P ops C L rest a'' W'') fun _ _ h1 h2 => ⟨h1, h2⟩
  unfold mOpOIn
  rw [if_pos hw]
  exact h2
theorem wpMixEIn_sn (hw : Region.wanted o (yielded ops a.tmps) = false) (hab : ∀ w, o.about P w a.eval = none) (h : ∀ W', Below W.heap.size W W' → ∀ K : Act → World → Prop, (∀ a w, (rest = [] ∨ C w) → wpMixEIn F n P ops C L rest a w → K a w) → K (a.put o.dst undef) W') : wpMixEIn F n P ops C L ((false, o) :: rest) a W := by
  intro W' hb
  have h2 := h W' hb (fun a'' W'' => (rest = [] ∨ C W'') ∧ wpMixEIn F n P ops C L rest a'' W'') fun _ _ h1 h2 => ⟨h1, h2⟩
  unfold mOpOIn
  rw [if_neg (by simp [hw])]
  exact ⟨(fun f hf => by rw [hab W'] at hf; cases hf), h2⟩
end
def wpSegIn (F : Fence) (n : Nat) (P : Program) (ops : Array Oper) (L : Act → World → Prop) : List (List (Bool × Oper)) → Act → World → Prop := wpSegX (YieldsF P ops) (mOpOIn F n P ops) L
theorem wpSegIn_nil {ops : Array Oper} {L : Act → World → Prop} {a : Act} {W : World} (h : ∀ W', Below W.heap.size W W' → L a W') : wpSegIn F n P ops L [] a W := h
theorem wpSegIn_cons {ops : Array Oper} {L : Act → World → Prop} {a : Act} {W : World} {s : List (Bool × Oper)} {ss : List (List (Bool × Oper))} (C : World → Prop) (hC : ∀ W W', C W → Below W.heap.size W W' → C W') (hW : C W)
    (h : ∀ K : Act → World → Prop, (∀ a W, wpSegIn F n P ops L ss a W → K a W) → wpMixEIn F n P ops C K s a W) : wpSegIn F n P ops L (s :: ss) a W :=
  ⟨C, hC, hW, h _ (fun _ _ h => h)⟩
theorem wpIn_region_seg {id : Nat} {Q : Exit → Act → World → Prop} {a : Act} {w : World} {l : List Oper} (hnd : Region.noDefer l = true) (fls : List (List Bool)) (hm : P.follows .mixedOrders = true)
    (hB : Region.segsB .any l.toArray fls = true) (h : ∀ W, Below w.heap.size w W → wpSegIn F n P l.toArray (fun a' W' => Q .normal a' W') (Region.parted fls l) a W) : (Code.region id l.toArray true).wpIn F n P Q a w := by
  simp only [Region.segsB, Bool.and_eq_true, decide_eq_true_eq] at hB
  obtain ⟨⟨hsel, hlen⟩, hgo⟩ := hB
  have hlen' : fls.flatten.length = l.length := by simpa using hlen
  obtain ⟨p1, p2⟩ := Region.parted_flatten fls l hlen'
  have hzl : (Region.parted fls l).flatten.length = l.toArray.size := by rw [p1]; simp [hlen']
  refine wpIn_region_any hm ?_
  have H := segs_sound (md := .any) (T := wpAnyIn F n P .any l.toArray Q) (L := fun a' W' => Q .normal a' W') (fun C => mixes_in F n P l.toArray C) (exo := mOpOIn F n P l.toArray) (fun {i o K a W} h0 h1 => by unfold mOpIn; simp only [h0]; exact h1) hsel
    (fun h0 h1 => ⟨h0, h1⟩)
    (fun {f listed a' W} h0 hall => ⟨fun h1 => absurd h1 h0, fun i hi => by
      have h1 := hall i hi
      unfold mOpIn at h1
      unfold wpOpIn
      cases ho : l.toArray[i]? with
      | none => simp only [ho] at h1 ⊢; exact h1
      | some o =>
        simp only [ho] at h1 ⊢
        unfold mOpOIn at h1
        split
        · rename_i hw
          rw [if_pos hw] at h1
          refine ⟨h1.1, ?_⟩
          have h1 := h1.2
          rw [Oper.semAt_eq _ _ _ (Region.noDefer_spec hnd ho)]
          generalize (execOp a'.eval o).run P W = r at h1 ⊢
          cases r with
          | halt x w' => simp only [Oper.calmUponIn] at h1
          | ok x w' =>
            cases x <;> simp only [Oper.calmUponIn] at h1 <;> simp only [Oper.uponIn]
            case value u => exact h1
            case skip => exact h1
            case enter f' args =>
              refine ⟨h1.1, h1.2.mono ?_⟩
              rintro e W'' ⟨v, rfl, h2⟩
              exact h2
            case round l' f' tmps assign body =>
              refine ⟨h1.1, h1.2.mono ?_⟩
              rintro e W'' ⟨v, rfl, h2⟩
              exact h2
        · rename_i hw
          rw [if_neg hw] at h1
          exact h1⟩)
    (Region.parted fls l) 0 (Array.replicate l.toArray.size false) a w.drew (fun j hj => by
      rw [p1] at hj ⊢
      rw [Nat.zero_add, ← List.getElem?_map, List.map_snd_zip (by omega), List.getElem?_toArray]) (Shut.none _ _) (by rw [p2]; exact hgo) (h _ ((Below.refl _ _).drew))
  rw [hzl] at H
  exact H
end
end Go

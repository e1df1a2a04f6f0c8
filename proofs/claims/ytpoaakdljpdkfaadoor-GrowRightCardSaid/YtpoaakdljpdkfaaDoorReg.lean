/- REGIONS THAT DRAW THEIR ORDER: the general steps. -/
import Derived.Test.YtpoaakdljpdkfaaDoorMem
import Derived.StillTail
set_option linter.unusedSimpArgs false
set_option linter.unusedVariables false
namespace Go
open Go.RowKit

section
variable {P : Program} {ops : Array Oper} {md : Region.Mode} {w0 : World} {B n : Nat}

/-- what an operation, carried out in w, has come to: v in the very world, or a call that hands v back and only lays blocks -/
def Oper.growUpon (P : Program) (w : World) (v : Value) : Result Next → Prop
  | .ok (.value u) w' => w' = w ∧ u = v
  | .ok .skip w' => w' = w ∧ v = undef
  | .ok (.enter f args) w' => w' = w ∧ Calls P f args w (fun e w'' => e = .returned v ∧ Below w.heap.size w w'')
  | _ => False
def Oper.growAt (P : Program) (o : Oper) (a : Act) (w : World) (v : Value) : Prop := Oper.growUpon P w v ((execOp a.eval o).run P w)
def Oper.grow (P : Program) (o : Oper) (a : Act) (w0 : World) (next : Act → Prop) : Prop := ∃ v, (∀ g, o.growAt P a (w0.ext g) v) ∧ next (a.put o.dst v)
def wpGrow (P : Program) (ops : Array Oper) (w0 : World) (Q : Act → Prop) : List Oper → Act → Prop
  | [], a => Q a
  | o :: rest, a => if Region.wanted o (yielded ops a.tmps) then o.grow P a w0 (wpGrow P ops w0 Q rest) else wpGrow P ops w0 Q rest (a.put o.dst undef)
theorem wpGrow_nil {Q : Act → Prop} {a : Act} (h : Q a) : wpGrow P ops w0 Q [] a := h
theorem wpGrow_step {Q : Act → Prop} {a : Act} {o : Oper} {rest : List Oper}
    (h : ∀ K : Act → Prop, (∀ a, wpGrow P ops w0 Q rest a → K a) → if Region.wanted o (yielded ops a.tmps) then o.grow P a w0 K else K (a.put o.dst undef)) : wpGrow P ops w0 Q (o :: rest) a :=
  h _ (fun _ h => h)

def rOp (P : Program) (ops : Array Oper) (w0 : World) (i : Nat) (K : Act → Prop) (a : Act) : Prop :=
  match ops[i]? with
  | none => K a
  | some o => if Region.wanted o (yielded ops a.tmps) then o.grow P a w0 K else K (a.put o.dst undef)
theorem rOp_mono {i : Nat} {a : Act} {K K' : Act → Prop} (h : ∀ a, K a → K' a) (hh : rOp P ops w0 i K a) : rOp P ops w0 i K' a := by
  unfold rOp at *
  split
  · exact h _ (by simpa [*] using hh)
  · rename_i o ho
    simp only [ho] at hh
    split
    · rename_i hw; simp only [hw, if_true] at hh; obtain ⟨v, h1, h2⟩ := hh; exact ⟨v, h1, h _ h2⟩
    · rename_i hw; simp only [hw] at hh; exact h _ hh
def YieldsG (P : Program) (ops : Array Oper) (w0 : World) (o : Oper) (v : Value) (a : Act) : Prop :=
  (Region.wanted o (yielded ops a.tmps) = true ∧ ∀ g, o.growAt P a (w0.ext g) v) ∨ (Region.wanted o (yielded ops a.tmps) = false ∧ v = undef)
theorem YieldsG.rOp {i : Nat} {o : Oper} {v : Value} {a : Act} (hi : ops[i]? = some o) (hy : YieldsG P ops w0 o v a) {K : Act → Prop} (h : K (a.put o.dst v)) : rOp P ops w0 i K a := by
  unfold Go.rOp
  simp only [hi]
  rcases hy with ⟨hw, hv⟩ | ⟨hw, rfl⟩
  · simp only [hw, if_true]; exact ⟨v, hv, h⟩
  · simp only [hw, Bool.false_eq_true, if_false]; exact h
theorem YieldsG.of_same {o : Oper} {v : Value} {a a' : Act} (hy : YieldsG P ops w0 o v a) (he : execOp a'.eval o = execOp a.eval o)
    (hw : Region.wanted o (yielded ops a'.tmps) = Region.wanted o (yielded ops a.tmps)) : YieldsG P ops w0 o v a' := by
  unfold YieldsG Oper.growAt at *
  rw [he, hw]
  exact hy
theorem yieldsG_of_rOp {i : Nat} {o : Oper} {a : Act} {K : Act → Prop} (hi : ops[i]? = some o) (h : rOp P ops w0 i K a) : ∃ v, YieldsG P ops w0 o v a ∧ K (a.put o.dst v) := by
  unfold rOp at h
  simp only [hi] at h
  by_cases hw : Region.wanted o (yielded ops a.tmps) = true
  · simp only [hw, if_true] at h
    obtain ⟨v, h1, h2⟩ := h
    exact ⟨v, .inl ⟨hw, h1⟩, h2⟩
  · simp only [hw] at h
    exact ⟨undef, .inr ⟨by simpa using hw, rfl⟩, h⟩
theorem rOp_put {j : Nat} {oi oj : Oper} {v : Value} (hj : ops[j]? = some oj) (hap : oi.apart ops oj = true)
    (hsi : ∀ cs b, oi.op ≠ .select cs b) (hsj : ∀ cs b, oj.op ≠ .select cs b) {K : Act → Prop} {a : Act}
    (hy : YieldsG P ops w0 oi v a) (h : rOp P ops w0 j K (a.put oi.dst v)) :
    rOp P ops w0 j (fun a' => YieldsG P ops w0 oi v a' ∧ K (a'.put oi.dst v)) a := by
  obtain ⟨h1, h2, h3⟩ := Oper.apart_spec hap
  have keep : ∀ (a : Act), YieldsG P ops w0 oi v a → ∀ u, YieldsG P ops w0 oi v (a.put oj.dst u) := fun a hy u =>
    hy.of_same (execOp_put oi hsi a oj.dst u h3) (wanted_put oi a oj.dst u h3)
  unfold rOp at *
  simp only [hj] at *
  rw [wanted_put oj a oi.dst v h1] at h
  split
  · rename_i hw
    simp only [hw, if_true] at h
    obtain ⟨u, hu, hn⟩ := h
    refine ⟨u, fun g => ?_, keep a hy u, by rw [← Act.put_comm a v u h2]; exact hn⟩
    have := hu g
    unfold Oper.growAt at *
    rwa [execOp_put oj hsj a oi.dst v h1] at this
  · rename_i hw
    simp only [hw] at h
    exact ⟨keep a hy _, by rw [← Act.put_comm a v undef h2]; exact h⟩

/-- operation i comes up: number n makes a variable, wherever; each other one is quiet -/
def gOp (P : Program) (ops : Array Oper) (w0 : World) (B n i : Nat) (K : Option Nat → Act → Prop) (po : Option Nat) (a : Act) : Prop :=
  if i = n then ∀ p, B ≤ p → K (some p) (a.put ((ops[i]?).bind (·.dst)) (.pointer (some ⟨p, 0, none⟩))) else rOp P ops w0 i (K po) a

def wpAnyG (P : Program) (md : Region.Mode) (ops : Array Oper) (w0 : World) (B n : Nat) (L : Array Bool → Option Nat → Act → Prop) : Nat → Array Bool → Option Nat → Act → Prop
  | 0, listed, po, a => L listed po a
  | f + 1, listed, po, a =>
    Region.ready md ops listed ≠ [] ∧ ∀ i ∈ Region.ready md ops listed, i < n + 1 ∧ gOp P ops w0 B n i (wpAnyG P md ops w0 B n L f (listed.setIfInBounds i true)) po a

theorem gOp_mono {i : Nat} {a : Act} {po : Option Nat} {K K' : Option Nat → Act → Prop} (h : ∀ po a, K po a → K' po a) (hh : gOp P ops w0 B n i K po a) : gOp P ops w0 B n i K' po a := by
  unfold gOp at *
  split at hh
  · rename_i e; rw [if_pos e]; exact fun p hp => h _ _ (hh p hp)
  · rename_i e; rw [if_neg e]; exact rOp_mono (fun a => h _ a) hh

theorem gOp_put {j : Nat} {oi oj : Oper} {v : Value} {po : Option Nat} (hj : ops[j]? = some oj) (hap : oi.apart ops oj = true)
    (hsi : ∀ cs b, oi.op ≠ .select cs b) (hsj : ∀ cs b, oj.op ≠ .select cs b) {K : Option Nat → Act → Prop} {a : Act}
    (hy : YieldsG P ops w0 oi v a) (h : gOp P ops w0 B n j K po (a.put oi.dst v)) :
    gOp P ops w0 B n j (fun po' a' => YieldsG P ops w0 oi v a' ∧ K po' (a'.put oi.dst v)) po a := by
  unfold gOp at *
  split
  · rename_i e
    rw [if_pos e] at h
    obtain ⟨h1, h2, h3⟩ := Oper.apart_spec hap
    have hd : (ops[j]?).bind (·.dst) = oj.dst := by rw [hj]; rfl
    rw [hd] at h ⊢
    intro p hp
    refine ⟨hy.of_same (execOp_put oi hsi a oj.dst _ h3) (wanted_put oi a oj.dst _ h3), ?_⟩
    rw [← Act.put_comm a v _ h2]
    exact h p hp
  · rename_i e
    rw [if_neg e] at h
    exact rOp_put hj hap hsi hsj hy h

theorem wpAnyG_first {i : Nat} {oi : Oper} {v : Value} {L : Array Bool → Option Nat → Act → Prop} (hi : ops[i]? = some oi) (hsel : ∀ (j : Nat) (o : Oper) cs b, ops[j]? = some o → o.op ≠ .select cs b)
    (hs : Region.sinkB md ops (n + 1) = true) (hc : Region.chainB md ops (n + 1) = true) (hn : n + 1 < ops.size) (hin : i < n)
    (hdone : ∀ listed po a, L listed po a → ∀ j ∈ Region.ready md ops listed, n + 1 ≤ j) :
    ∀ (f : Nat) (listed : Array Bool) (po : Option Nat) (a : Act), HeadInv md ops (n + 1) listed →
      (∀ j oj, ops[j]? = some oj → j ≠ i → listed.getD j true = false → (∀ e ∈ oj.after, Region.binds md e = true → e.on ≠ i) → oi.apart ops oj = true) →
      i ∈ Region.ready md ops listed → YieldsG P ops w0 oi v a →
      wpAnyG P md ops w0 B n L f (listed.setIfInBounds i true) po (a.put oi.dst v) → wpAnyG P md ops w0 B n L (f + 1) listed po a := by
  intro f
  have hstep : ∀ {K : Option Nat → Act → Prop} {po : Option Nat} {a : Act}, YieldsG P ops w0 oi v a → K po (a.put oi.dst v) → gOp P ops w0 B n i K po a := by
    intro K po a hy h
    unfold gOp
    rw [if_neg (by omega)]
    exact hy.rOp hi h
  induction f with
  | zero =>
    intro listed po a inv _ hr hy H
    have hun := (mem_ready.1 hr).1
    refine ⟨fun h => (by rw [h] at hr; cases hr), fun j hj => ?_⟩
    have hjn : j < n + 1 := by
      rcases Nat.lt_or_ge j (n + 1) with h | h
      · exact h
      · exact absurd hj (tail_waits hs hc hn inv _ i rfl (by omega) hun j h)
    refine ⟨hjn, ?_⟩
    by_cases hji : j = i
    · subst hji; exact hstep hy H
    · have := hdone _ _ _ H j (ready_mono hj hji)
      omega
  | succ f ih =>
    intro listed po a inv hfree hr hy H
    have hun := (mem_ready.1 hr).1
    refine ⟨fun h => (by rw [h] at hr; cases hr), fun j hj => ?_⟩
    have hjn : j < n + 1 := by
      rcases Nat.lt_or_ge j (n + 1) with h | h
      · exact h
      · exact absurd hj (tail_waits hs hc hn inv _ i rfl (by omega) hun j h)
    refine ⟨hjn, ?_⟩
    by_cases hji : j = i
    · subst hji; exact hstep hy H
    · have h1 := (H.2 j (ready_mono hj hji)).2
      obtain ⟨hjun, oj, hoj, hall⟩ := mem_ready.1 hj
      have hnot : ∀ e ∈ oj.after, Region.binds md e = true → e.on ≠ i := fun e he hb heq => by
        have h1 := hall e he hb
        rw [heq, getD_both hun] at h1
        cases h1
      have h2 := gOp_put hoj (hfree j oj hoj hji hjun hnot) (fun cs b => hsel i oi cs b hi) (fun cs b => hsel j oj cs b hoj) hy h1
      have hfree' : ∀ k ok, ops[k]? = some ok → k ≠ i → (listed.setIfInBounds j true).getD k true = false →
          (∀ e ∈ ok.after, Region.binds md e = true → e.on ≠ i) → oi.apart ops ok = true := fun k ok hk hki hun hno => by
        refine hfree k ok hk hki ?_ hno
        by_cases hjk : j = k
        · subst hjk; exact hjun
        · rw [getD_set_ne true hjk] at hun; exact hun
      refine gOp_mono (fun po' a' h3 => ih (listed.setIfInBounds j true) po' a' (inv.set hj hjn) hfree' (ready_mono hr (Ne.symm hji)) h3.1 ?_) h2
      rw [Array.setIfInBounds_comm _ _ hji]
      exact h3.2

theorem wpAnyG_lex {g : Nat} {Lq : Act → Prop} (hsel : Region.noSelect ops = true) (hs : Region.sinkB md ops (n + 1) = true) (hc : Region.chainB md ops (n + 1) = true) (hn : n + 1 < ops.size) :
    ∀ (l : List Oper) (k : Nat) (listed : Array Bool) (a : Act), (∀ j, j < l.length → l[j]? = ops[k + j]?) → k + l.length = n → HeadInv md ops (n + 1) listed →
    Region.lexHead md ops g (l.length + 1) k listed = true → wpGrow P ops w0 Lq l a →
    wpAnyG P md ops w0 B n (fun listed' po' a' => Region.seqB md ops g (n + 1) listed' = true ∧ ∃ (p : Nat) (a0 : Act), po' = some p ∧ B ≤ p ∧ Lq a0 ∧ a' = a0.put ((ops[n]?).bind (·.dst)) (.pointer (some ⟨p, 0, none⟩))) (l.length + 1) listed none a
  | [], k, listed, a, _, hk, inv, hB, h => by
    have : k = n := by simpa using hk
    subst this
    simp only [List.length_nil, Region.lexHead, Bool.and_eq_true] at hB
    obtain ⟨⟨hr, hf⟩, hB'⟩ := hB
    have hr' : k ∈ Region.ready md ops listed := by simpa using hr
    have hun := (mem_ready.1 hr').1
    refine ⟨fun h0 => (by rw [h0] at hr'; cases hr'), fun i hi => ?_⟩
    have hik : i < k + 1 := by
      rcases Nat.lt_or_ge i (k + 1) with h1 | h1
      · exact h1
      · exact absurd hi (tail_waits hs hc hn inv _ k rfl (by omega) hun i h1)
    by_cases e : i = k
    · subst e
      refine ⟨hik, ?_⟩
      unfold gOp
      rw [if_pos rfl]
      exact fun p hp => ⟨hB', p, a, rfl, hp, h, rfl⟩
    · exfalso
      have := seqB_ready hB' i (ready_mono hi e)
      omega
  | o :: l, k, listed, a, hl, hk, inv, hB, h => by
    have h0 : ops[k]? = some o := by simpa using (hl 0 (by simp)).symm
    simp only [List.length_cons] at hB
    unfold Region.lexHead at hB
    simp only [Bool.and_eq_true] at hB
    obtain ⟨⟨hr, hf⟩, hB'⟩ := hB
    have hkn : k < n := by simp only [List.length_cons] at hk; omega
    have hr' : k ∈ Region.ready md ops listed := by simpa using hr
    have hst : rOp P ops w0 k (wpGrow P ops w0 Lq l) a := by unfold rOp; simp only [h0]; exact h
    obtain ⟨v, hy, hK⟩ := yieldsG_of_rOp h0 hst
    exact wpAnyG_first h0 (Region.noSelect_spec hsel) hs hc hn hkn (fun listed' po' a' hL => seqB_ready hL.1) (l.length + 1) listed none a inv (Region.free_spec h0 hf) hr' hy
      (wpAnyG_lex hsel hs hc hn l (k + 1) _ _ (fun j hj => by have := hl (j + 1) (by simp; omega); simpa [Nat.add_assoc, Nat.add_comm 1 j] using this) (by simp only [List.length_cons] at hk; omega) (inv.set hr' (by omega)) hB' hK)
end

/-- A REGION THAT DRAWS: n quiet operations (calls may lay blocks), one new variable, and what is done behind them all. -/
theorem wp_region_ext_alloc {P : Program} {id : Nat} {Q : Exit → Act → World → Prop} {a : Act} {w : World} {l : List Oper} (n : Nat) (T : TypeId) (z : Value) (hm : P.follows .mixedOrders = true)
    (hB : Region.lexTailB .any l.toArray (n + 1) = true) (hop : (l[n]?).map (fun o => (o.op matches .alloc _, o.guard.isNone)) = some (true, true)) (hT : (l[n]?).map (fun o => o.op) = some (.alloc T))
    (hz : ∀ W, (zeroValue T).run P W = .ok z W)
    (h : wpGrow P l.toArray w (fun a' => ∀ p W, w.heap.size ≤ p → Below w.heap.size w W → W.heap[p]? = some (.cells z.cells T (0, 0)) →
      wpList P l.toArray Q (l.drop (n + 1)) (a'.put ((l[n]?).bind (·.dst)) (.pointer (some ⟨p, 0, none⟩))) W) (l.take n) a) : (Code.region id l.toArray true).wp P Q a w := by
  simp only [Region.lexTailB, Bool.and_eq_true, decide_eq_true_eq] at hB
  obtain ⟨⟨⟨⟨hsel, hn⟩, hs⟩, hc⟩, hlex⟩ := hB
  have hn' : n + 1 < l.length := by simpa using hn
  have htl : (l.take n).length = n := by simp; omega
  have hdl : (l.drop (n + 1)).length = l.toArray.size - (n + 1) := by simp
  have inv0 : HeadInv .any l.toArray (n + 1) (Array.replicate l.toArray.size false) :=
    ⟨by simp, fun j oj _ hl => (by rw [getD_replicate_false] at hl; cases hl), fun t _ ht => getD_in (by simpa using ht) (getD_replicate_false _ _)⟩
  obtain ⟨on, hon⟩ : ∃ o, l[n]? = some o := ⟨_, List.getElem?_eq_getElem (by omega)⟩
  have hon' : l.toArray[n]? = some on := by simpa using hon
  rw [hon] at hop hT
  simp only [Option.map_some, Option.some.injEq, Prod.mk.injEq] at hop hT
  have hg : on.guard = none := by simpa using hop.2
  have H := wpAnyG_lex (P := P) (B := w.heap.size) (w0 := w) (md := .any) (g := l.toArray.size - (n + 1)) hsel hs hc hn (l.take n) 0 _ a (fun j hj => by
    have hj' : j < n := by rw [htl] at hj; exact hj
    simp [hj']) (by simpa using htl) inv0 (by rw [htl]; exact hlex) h
  rw [htl] at H
  refine wp_region_any hm ?_
  -- every order of the head, world by world
  have sound : ∀ (f : Nat) (listed : Array Bool) (po : Option Nat) (a' : Act) (W : World), Below w.heap.size w W → (∀ p, po = some p → w.heap.size ≤ p ∧ W.heap[p]? = some (.cells z.cells T (0, 0))) →
      wpAnyG P .any l.toArray w w.heap.size n (fun listed' po' a' => Region.seqB .any l.toArray (l.toArray.size - (n + 1)) (n + 1) listed' = true ∧ ∃ (p : Nat) (a0 : Act), po' = some p ∧ w.heap.size ≤ p ∧
        (∀ p W, w.heap.size ≤ p → Below w.heap.size w W → W.heap[p]? = some (.cells z.cells T (0, 0)) → wpList P l.toArray Q (l.drop (n + 1)) (a0.put ((l[n]?).bind (·.dst)) (.pointer (some ⟨p, 0, none⟩))) W) ∧ a' = a0.put ((l.toArray[n]?).bind (·.dst)) (.pointer (some ⟨p, 0, none⟩))) f listed po a' →
      wpAny P .any l.toArray Q (f + (l.toArray.size - (n + 1))) listed a' W := by
    intro f
    induction f with
    | zero =>
      intro listed po a' W hb hp hL
      obtain ⟨hseq, p, a0, rfl, hpB, hrun, rfl⟩ := hL
      rw [Nat.zero_add]
      have := wpAny_of_seq (P := P) (md := .any) (Q' := Q) (l.drop (n + 1)) (n + 1) listed _ W (fun j => by simp [List.getElem?_drop]) (by rw [hdl]; exact hseq) (hrun p W hpB hb (hp p rfl).2)
      rw [hdl] at this
      simpa using this
    | succ f ih =>
      intro listed po a' W hb hp hL
      rw [show f + 1 + (l.toArray.size - (n + 1)) = (f + (l.toArray.size - (n + 1))) + 1 by omega]
      refine ⟨fun h0 => absurd h0 hL.1, fun i hi => ?_⟩
      have h1 := (hL.2 i hi).2
      unfold gOp at h1
      by_cases e : i = n
      · subst e
        rw [if_pos rfl] at h1
        unfold wpOp
        simp only [hon']
        rw [if_pos (by simp [Region.wanted, hg])]
        left
        unfold Oper.wp execOp
        simp only [hT, Instr.alloc, hz, Sem.run_bind, Sem.run_pure, Result.andThen_ok]
        simp only [newVar, newRow, run_newObj, Sem.run_bind, Sem.run_pure, Result.andThen_ok, Oper.upon, World.alloc_eq]
        have h2 := h1 W.heap.size hb.size
        have hd : (l.toArray[i]?).bind (·.dst) = on.dst := by rw [hon']; rfl
        have h2' := congrArg (fun d => a'.put d (.pointer (some ⟨W.heap.size, 0, none⟩))) hd
        rw [h2'] at h2
        refine ih _ (some W.heap.size) _ _ (hb.alloc hb.size _) (fun p hp' => ?_) h2
        cases hp'
        exact ⟨hb.size, heap_alloc_new W _⟩
      · rw [if_neg e] at h1
        unfold rOp at h1
        unfold wpOp
        cases ho : l.toArray[i]? with
        | none => simp only [ho] at h1 ⊢; exact ih _ po _ _ hb hp h1
        | some o =>
          simp only [ho] at h1 ⊢
          split
          · rename_i hw
            rw [if_pos hw] at h1
            left
            obtain ⟨v, h3, h4⟩ := h1
            obtain ⟨g, hg'⟩ := World.ext_of hb
            have h5 := h3 g
            rw [← hg'] at h5
            unfold Oper.growAt at h5
            unfold Oper.wp
            generalize (execOp a'.eval o).run P W = r at h5 ⊢
            cases r with
            | halt x w' => simp only [Oper.growUpon] at h5
            | ok x w' =>
              cases x <;> simp only [Oper.growUpon] at h5 <;> simp only [Oper.upon]
              case value u => obtain ⟨rfl, rfl⟩ := h5; exact ih _ po _ _ hb hp h4
              case skip => obtain ⟨rfl, rfl⟩ := h5; exact ih _ po _ _ hb hp h4
              case enter f' args =>
                obtain ⟨rfl, h6⟩ := h5
                refine h6.mono ?_
                rintro e W'' ⟨rfl, hb2⟩
                refine ih _ po _ _ (hb.trans (hb2.mono hb.size)) (fun p hp' => ?_) h4
                obtain ⟨h7, h8⟩ := hp p hp'
                exact ⟨h7, (hb2.block p (Array.getElem?_eq_some_iff.1 h8).1).trans h8⟩
          · rename_i hw
            rw [if_neg hw] at h1
            exact ih _ po _ _ hb hp h1
  have := sound (n + 1) _ none a { w with drawn := w.drawn + 1 } ((Below.refl _ _).drew) (fun p hp => by cases hp) H
  rw [show n + 1 + (l.toArray.size - (n + 1)) = l.toArray.size by omega] at this
  exact this
end Go

/- REGIONS THAT DRAW: quiet operations and others mixed. One walk in the text's order serves every order, where each operation that is not quiet stands alone when its turn comes. Plain, and inside a fence. -/
import Derived.Test.YtpoaakdljpdkfaaDoorCls
import Derived.OrdersIn
import Derived.ControlIn
set_option linter.unusedSimpArgs false
set_option linter.unusedVariables false
namespace Go
open Go.RowKit
/-- what is asked of a way to carry operations out -/
structure Mixes (ops : Array Oper) (C : World → Prop) (Y : Oper → Value → Act → Prop) (ex : Nat → (Act → World → Prop) → Act → World → Prop) : Prop where
  mono : ∀ {i : Nat} {a : Act} {W : World} {K K' : Act → World → Prop}, (∀ a w, K a w → K' a w) → ex i K a W → ex i K' a W
  quiet : ∀ {i : Nat} {oi : Oper} {v : Value} {a : Act} {W : World} {K : Act → World → Prop}, ops[i]? = some oi → Y oi v a → C W → (∀ W', Below W.heap.size W W' → K (a.put oi.dst v) W') → ex i K a W
  put : ∀ {j : Nat} {oi oj : Oper} {v : Value}, ops[j]? = some oj → oi.apart ops oj = true → (∀ cs b, oi.op ≠ .select cs b) → (∀ cs b, oj.op ≠ .select cs b) → ∀ {K : Act → World → Prop} {a : Act} {W : World},
    Y oi v a → ex j K (a.put oi.dst v) W → ex j (fun a' w' => Y oi v a' ∧ K (a'.put oi.dst v) w') a W

section
variable {ops : Array Oper} {md : Region.Mode} {C : World → Prop} {Y : Oper → Value → Act → Prop} {ex : Nat → (Act → World → Prop) → Act → World → Prop}
/-- every order; ahead of each operation the memory may have grown -/
def wpAnyX (md : Region.Mode) (ops : Array Oper) (C : World → Prop) (ex : Nat → (Act → World → Prop) → Act → World → Prop) (L : Act → World → Prop) : Nat → Array Bool → Act → World → Prop
  | 0, listed, a, W => Region.ready md ops listed = [] ∧ ∀ W', Below W.heap.size W W' → L a W'
  | f + 1, listed, a, W =>
    Region.ready md ops listed ≠ [] ∧ ∀ i ∈ Region.ready md ops listed, ∀ W', Below W.heap.size W W' →
      ex i (fun a' W'' => C W'' ∧ wpAnyX md ops C ex L f (listed.setIfInBounds i true) a' W'') a W'
theorem wpAnyX_grow {L : Act → World → Prop} : ∀ {f : Nat} {listed : Array Bool} {a : Act} {W W1 : World}, Below W.heap.size W W1 → wpAnyX md ops C ex L f listed a W → wpAnyX md ops C ex L f listed a W1
  | 0, _, _, _, _, hb, h => ⟨h.1, fun W' hb' => h.2 W' (hb.trans (hb'.mono hb.size))⟩
  | f + 1, _, _, _, _, hb, h => ⟨h.1, fun i hi W' hb' => h.2 i hi W' (hb.trans (hb'.mono hb.size))⟩
theorem wpAnyX_first (M : Mixes ops C Y ex) (hC : ∀ W W', C W → Below W.heap.size W W' → C W') {i : Nat} {oi : Oper} {v : Value} {L : Act → World → Prop} (hi : ops[i]? = some oi)
    (hsel : ∀ (j : Nat) (o : Oper) cs b, ops[j]? = some o → o.op ≠ .select cs b) :
    ∀ (f : Nat) (listed : Array Bool) (a : Act) (W : World), C W →
      (∀ j oj, ops[j]? = some oj → j ≠ i → listed.getD j true = false → (∀ e ∈ oj.after, Region.binds md e = true → e.on ≠ i) → oi.apart ops oj = true) →
      i ∈ Region.ready md ops listed → Y oi v a →
      wpAnyX md ops C ex L f (listed.setIfInBounds i true) (a.put oi.dst v) W → wpAnyX md ops C ex L (f + 1) listed a W := by
  intro f
  induction f with
  | zero =>
    intro listed a W hW _ hr hy H
    refine ⟨fun h => (by rw [h] at hr; cases hr), fun j hj W' hb => ?_⟩
    by_cases hji : j = i
    · subst hji
      refine M.quiet hi hy (hC _ _ hW hb) fun W'' hb2 => ⟨hC _ _ (hC _ _ hW hb) hb2, ?_⟩
      exact wpAnyX_grow (hb.trans (hb2.mono hb.size)) H
    · have := ready_mono (i := i) hj hji
      rw [H.1] at this
      cases this
  | succ f ih =>
    intro listed a W hW hfree hr hy H
    have hun := (mem_ready.1 hr).1
    refine ⟨fun h => (by rw [h] at hr; cases hr), fun j hj W' hb => ?_⟩
    by_cases hji : j = i
    · subst hji
      refine M.quiet hi hy (hC _ _ hW hb) fun W'' hb2 => ⟨hC _ _ (hC _ _ hW hb) hb2, ?_⟩
      exact wpAnyX_grow (hb.trans (hb2.mono hb.size)) H
    · have h1 := H.2 j (ready_mono hj hji) W' hb
      obtain ⟨hjun, oj, hoj, hall⟩ := mem_ready.1 hj
      have hnot : ∀ e ∈ oj.after, Region.binds md e = true → e.on ≠ i := fun e he hb heq => by
        have h1 := hall e he hb
        rw [heq, getD_both hun] at h1
        cases h1
      have h2 := M.put hoj (hfree j oj hoj hji hjun hnot) (fun cs b => hsel i oi cs b hi) (fun cs b => hsel j oj cs b hoj) hy h1
      have hfree' : ∀ k ok, ops[k]? = some ok → k ≠ i → (listed.setIfInBounds j true).getD k true = false →
          (∀ e ∈ ok.after, Region.binds md e = true → e.on ≠ i) → oi.apart ops ok = true := fun k ok hk hki hun hno => by
        refine hfree k ok hk hki ?_ hno
        by_cases hjk : j = k
        · subst hjk; exact hjun
        · rw [getD_set_ne true hjk] at hun; exact hun
      refine M.mono (fun a' W'' h3 => ⟨h3.2.1, ih (listed.setIfInBounds j true) a' W'' h3.2.1 hfree' (ready_mono hr (Ne.symm hji)) h3.1 ?_⟩) h2
      rw [Array.setIfInBounds_comm _ _ hji]
      exact h3.2.2
/-- the walk in the text's order: true: a quiet operation (it yields one value in every world of the class); false: any other -/
def wpMixX (C : World → Prop) (Yv : Oper → Value → Act → Prop) (exo : Oper → (Act → World → Prop) → Act → World → Prop) (L : Act → World → Prop) : List (Bool × Oper) → Act → World → Prop
  | [], a, W => ∀ W', Below W.heap.size W W' → L a W'
  | (true, o) :: rest, a, W => ∃ v, Yv o v a ∧ wpMixX C Yv exo L rest (a.put o.dst v) W
  | (false, o) :: rest, a, W => ∀ W', Below W.heap.size W W' → exo o (fun a'' W'' => C W'' ∧ wpMixX C Yv exo L rest a'' W'') a W'
/-- what is asked of the region's form -/
def Region.mixGo (md : Region.Mode) (ops : Array Oper) : List Bool → Nat → Array Bool → Bool
  | [], _, listed => (Region.ready md ops listed).isEmpty
  | true :: fl, k, listed => (Region.ready md ops listed).contains k && Region.free md ops listed k && Region.mixGo md ops fl (k + 1) (listed.setIfInBounds k true)
  | false :: fl, k, listed => decide (Region.ready md ops listed = [k]) && Region.mixGo md ops fl (k + 1) (listed.setIfInBounds k true)
theorem wpAnyX_lex (M : Mixes ops C Y ex) (hC : ∀ W W', C W → Below W.heap.size W W' → C W') {exo : Oper → (Act → World → Prop) → Act → World → Prop} (hex : ∀ {i : Nat} {o : Oper} {K : Act → World → Prop} {a : Act} {W : World}, ops[i]? = some o → exo o K a W → ex i K a W)
    {L : Act → World → Prop} (hsel : Region.noSelect ops = true) :
    ∀ (l : List (Bool × Oper)) (k : Nat) (listed : Array Bool) (a : Act) (W : World), (∀ j, j < l.length → (l[j]?).map (·.2) = ops[k + j]?) → C W →
    Region.mixGo md ops (l.map (·.1)) k listed = true → wpMixX C Y exo L l a W → wpAnyX md ops C ex L l.length listed a W
  | [], k, listed, a, W, hl, hW, hB, h => ⟨by simpa [Region.mixGo] using hB, h⟩
  | (true, o) :: l, k, listed, a, W, hl, hW, hB, h => by
    have h0 : ops[k]? = some o := by simpa using (hl 0 (by simp)).symm
    simp only [List.map_cons, Region.mixGo, Bool.and_eq_true] at hB
    obtain ⟨⟨hr, hf⟩, hB'⟩ := hB
    have hr' : k ∈ Region.ready md ops listed := by simpa using hr
    obtain ⟨v, hy, hK⟩ := h
    exact wpAnyX_first M hC h0 (Region.noSelect_spec hsel) l.length listed a W hW (Region.free_spec h0 hf) hr' hy
      (wpAnyX_lex M hC hex hsel l (k + 1) _ _ W (fun j hj => by have := hl (j + 1) (by simp only [List.length_cons]; omega); simpa [Nat.add_assoc, Nat.add_comm 1 j] using this) hW hB' hK)
  | (false, o) :: l, k, listed, a, W, hl, hW, hB, h => by
    have h0 : ops[k]? = some o := by simpa using (hl 0 (by simp)).symm
    simp only [List.map_cons, Region.mixGo, Bool.and_eq_true, decide_eq_true_eq] at hB
    refine ⟨fun h1 => (by rw [hB.1] at h1; cases h1), fun i hi W' hb => ?_⟩
    rw [hB.1] at hi
    have hik : i = k := by simpa using hi
    subst hik
    exact M.mono (fun a' W'' h3 => ⟨h3.1, wpAnyX_lex M hC hex hsel l (i + 1) _ a' W'' (fun j hj => by have := hl (j + 1) (by simp only [List.length_cons]; omega); simpa [Nat.add_assoc, Nat.add_comm 1 j] using this) h3.1 hB.2 h3.2⟩) (hex h0 (h W' hb))
/-- .. and in whatever order is named -/
def Region.ordGo (md : Region.Mode) (ops : Array Oper) : List (Bool × Nat) → Array Bool → Bool
  | [], listed => (Region.ready md ops listed).isEmpty
  | (true, k) :: fl, listed => (Region.ready md ops listed).contains k && Region.free md ops listed k && Region.ordGo md ops fl (listed.setIfInBounds k true)
  | (false, k) :: fl, listed => decide (Region.ready md ops listed = [k]) && Region.ordGo md ops fl (listed.setIfInBounds k true)
def Region.picked (l : List Oper) : List (Bool × Nat) → List (Bool × Oper)
  | [] => []
  | (b, k) :: pl => match l[k]? with
    | some o => (b, o) :: Region.picked l pl
    | none => []
theorem wpAnyX_ord (M : Mixes ops C Y ex) (hC : ∀ W W', C W → Below W.heap.size W W' → C W') {exo : Oper → (Act → World → Prop) → Act → World → Prop} (hex : ∀ {i : Nat} {o : Oper} {K : Act → World → Prop} {a : Act} {W : World}, ops[i]? = some o → exo o K a W → ex i K a W)
    {L : Act → World → Prop} (hsel : Region.noSelect ops = true) :
    ∀ (pl : List (Bool × Nat)) (listed : Array Bool) (a : Act) (W : World), (∀ p ∈ pl, p.2 < ops.size) → C W →
    Region.ordGo md ops pl listed = true → wpMixX C Y exo L (Region.picked ops.toList pl) a W → wpAnyX md ops C ex L pl.length listed a W
  | [], listed, a, W, hl, hW, hB, h => ⟨by simpa [Region.ordGo] using hB, h⟩
  | (true, k) :: pl, listed, a, W, hl, hW, hB, h => by
    have hk : k < ops.size := hl (true, k) (by simp)
    have h0 : ops[k]? = some ops[k] := Array.getElem?_eq_getElem hk
    simp only [Region.ordGo, Bool.and_eq_true] at hB
    obtain ⟨⟨hr, hf⟩, hB'⟩ := hB
    have hr' : k ∈ Region.ready md ops listed := by simpa using hr
    simp only [Region.picked, Array.getElem?_toList, h0] at h
    obtain ⟨v, hy, hK⟩ := h
    exact wpAnyX_first M hC h0 (Region.noSelect_spec hsel) pl.length listed a W hW (Region.free_spec h0 hf) hr' hy
      (wpAnyX_ord M hC hex hsel pl _ _ W (fun p hp => hl p (by simp [hp])) hW hB' hK)
  | (false, k) :: pl, listed, a, W, hl, hW, hB, h => by
    have hk : k < ops.size := hl (false, k) (by simp)
    have h0 : ops[k]? = some ops[k] := Array.getElem?_eq_getElem hk
    simp only [Region.ordGo, Bool.and_eq_true, decide_eq_true_eq] at hB
    simp only [Region.picked, Array.getElem?_toList, h0] at h
    refine ⟨fun h1 => (by rw [hB.1] at h1; cases h1), fun i hi W' hb => ?_⟩
    rw [hB.1] at hi
    have hik : i = k := by simpa using hi
    subst hik
    exact M.mono (fun a' W'' h3 => ⟨h3.1, wpAnyX_ord M hC hex hsel pl _ a' W'' (fun p hp => hl p (by simp [hp])) h3.1 hB.2 h3.2⟩) (hex h0 (h W' hb))
end
def Region.ordB (md : Region.Mode) (ops : Array Oper) (pl : List (Bool × Nat)) : Bool := Region.noSelect ops && decide (pl.length = ops.size) && pl.all (fun p => decide (p.2 < ops.size)) && Region.ordGo md ops pl (Array.replicate ops.size false)

def Region.mixB (md : Region.Mode) (ops : Array Oper) (fl : List Bool) : Bool := Region.noSelect ops && decide (fl.length = ops.size) && Region.mixGo md ops fl 0 (Array.replicate ops.size false)

/-! ### plain -/
/-- an operation that is carried out, or not wanted -/
def mOpO (P : Program) (ops : Array Oper) (o : Oper) (K : Act → World → Prop) (a : Act) (W : World) : Prop := if Region.wanted o (yielded ops a.tmps) then o.calm P a W K else K (a.put o.dst undef) W
theorem mixes_plain (P : Program) (ops : Array Oper) (C : World → Prop) : Mixes ops C (YieldsC P ops C) (mOp P ops) :=
  ⟨mOp_mono, fun hi hy hW h => mOpC_quiet hi hy hW h, fun hj hap hsi hsj _ _ _ hy h => mOpC_put hj hap hsi hsj hy h⟩
def wpMix (P : Program) (ops : Array Oper) (C : World → Prop) (L : Act → World → Prop) : List (Bool × Oper) → Act → World → Prop := wpMixX C (YieldsC P ops C) (mOpO P ops) L
section
variable {P : Program} {ops : Array Oper} {C : World → Prop} {L : Act → World → Prop} {a : Act} {W : World} {o : Oper} {rest : List (Bool × Oper)}
theorem wpMix_nil (h : ∀ W', Below W.heap.size W W' → L a W') : wpMix P ops C L [] a W := h
/-- a quiet operation -/
theorem wpMix_q (hg : o.guard = none) (h : ∀ K : Act → Prop, (∀ a, wpMix P ops C L rest a W → K a) → ∃ v, (∀ W', C W' → o.growAt P a W' v) ∧ K (a.put o.dst v)) : wpMix P ops C L ((true, o) :: rest) a W := by
  obtain ⟨v, h1, h2⟩ := h _ (fun _ h => h)
  exact ⟨v, .inl ⟨by simp [Region.wanted, hg], h1⟩, h2⟩
/-- a quiet operation behind a guard -/
theorem wpMix_qg (h : ∀ K : Act → Prop, (∀ a, wpMix P ops C L rest a W → K a) → if Region.wanted o (yielded ops a.tmps) then ∃ v, (∀ W', C W' → o.growAt P a W' v) ∧ K (a.put o.dst v) else K (a.put o.dst undef)) : wpMix P ops C L ((true, o) :: rest) a W := by
  have h := h _ (fun _ h => h)
  split at h
  · rename_i hw
    obtain ⟨v, h1, h2⟩ := h
    exact ⟨v, .inl ⟨hw, h1⟩, h2⟩
  · rename_i hw
    exact ⟨undef, .inr ⟨by simpa using hw, rfl⟩, h⟩
theorem wpMix_qy (hw : Region.wanted o (yielded ops a.tmps) = true) (h : ∀ K : Act → Prop, (∀ a, wpMix P ops C L rest a W → K a) → ∃ v, (∀ W', C W' → o.growAt P a W' v) ∧ K (a.put o.dst v)) : wpMix P ops C L ((true, o) :: rest) a W := by
  obtain ⟨v, h1, h2⟩ := h _ (fun _ h => h)
  exact ⟨v, .inl ⟨hw, h1⟩, h2⟩
theorem wpMix_qn (hw : Region.wanted o (yielded ops a.tmps) = false) (h : ∀ K : Act → Prop, (∀ a, wpMix P ops C L rest a W → K a) → K (a.put o.dst undef)) : wpMix P ops C L ((true, o) :: rest) a W :=
  ⟨undef, .inr ⟨hw, rfl⟩, h _ (fun _ h => h)⟩
/-- any other -/
theorem wpMix_s (hg : o.guard = none) (h : ∀ W', Below W.heap.size W W' → ∀ K : Act → World → Prop, (∀ a w, C w → wpMix P ops C L rest a w → K a w) → o.calm P a W' K) : wpMix P ops C L ((false, o) :: rest) a W := by
  intro W' hb
  unfold mOpO
  rw [if_pos (by simp [Region.wanted, hg])]
  exact h W' hb _ fun _ _ h1 h2 => ⟨h1, h2⟩
theorem wpMix_sg (h : ∀ W', Below W.heap.size W W' → ∀ K : Act → World → Prop, (∀ a w, C w → wpMix P ops C L rest a w → K a w) → if Region.wanted o (yielded ops a.tmps) then o.calm P a W' K else K (a.put o.dst undef) W') : wpMix P ops C L ((false, o) :: rest) a W := by
  intro W' hb
  exact h W' hb _ fun _ _ h1 h2 => ⟨h1, h2⟩
end
theorem wp_region_mix {P : Program} {id : Nat} {Q : Exit → Act → World → Prop} {a : Act} {w : World} {l : List Oper} (fl : List Bool) (C : World → Prop) (hC : ∀ W W', C W → Below W.heap.size W W' → C W') (h00 : C w) (hm : P.follows .mixedOrders = true)
    (hB : Region.mixB .any l.toArray fl = true) (h : ∀ W, Below w.heap.size w W → C W → wpMix P l.toArray C (fun a' W' => Q .normal a' W') (fl.zip l) a W) : (Code.region id l.toArray true).wp P Q a w := by
  simp only [Region.mixB, Bool.and_eq_true, decide_eq_true_eq] at hB
  obtain ⟨⟨hsel, hlen⟩, hgo⟩ := hB
  have hlen' : fl.length = l.length := by simpa using hlen
  have hzl : (fl.zip l).length = l.length := by simp [hlen']
  have hCd : C w.drew := hC _ _ h00 ((Below.refl _ _).drew)
  have H := wpAnyX_lex (md := .any) (mixes_plain P l.toArray C) hC (exo := mOpO P l.toArray) (fun {i o K a W} h0 h1 => by unfold mOp; simp only [h0]; exact h1) hsel (fl.zip l) 0 (Array.replicate l.toArray.size false) a w.drew
    (fun j hj => by
      rw [hzl] at hj
      rw [Nat.zero_add, ← List.getElem?_map, show (fl.zip l).map (·.2) = l by rw [List.map_snd_zip (by omega)], List.getElem?_toArray]) hCd
    (by rw [show (fl.zip l).map (·.1) = fl by rw [List.map_fst_zip (by omega)]]; exact hgo) (h _ ((Below.refl _ _).drew) hCd)
  rw [hzl] at H
  refine wp_region_any hm ?_
  have sound : ∀ (f : Nat) (listed : Array Bool) (a' : Act) (W : World), wpAnyX .any l.toArray C (mOp P l.toArray) (fun a' W' => Q .normal a' W') f listed a' W → wpAny P .any l.toArray Q f listed a' W := by
    intro f
    induction f with
    | zero => exact fun listed a' W h => ⟨h.1, h.2 W (Below.refl _ _)⟩
    | succ f ih =>
      intro listed a' W hL
      refine ⟨fun h0 => absurd h0 hL.1, fun i hi => ?_⟩
      have h1 := hL.2 i hi W (Below.refl _ _)
      unfold mOp at h1
      unfold wpOp
      cases ho : l.toArray[i]? with
      | none => simp only [ho] at h1 ⊢; exact ih _ _ _ h1.2
      | some o =>
        simp only [ho] at h1 ⊢
        split
        · rename_i hw
          rw [if_pos hw] at h1
          left
          unfold Oper.calm at h1
          unfold Oper.wp
          generalize (execOp a'.eval o).run P W = r at h1 ⊢
          cases r with
          | halt x w' => simp only [Oper.calmUpon] at h1
          | ok x w' =>
            cases x <;> simp only [Oper.calmUpon] at h1 <;> simp only [Oper.upon]
            case value u => exact ih _ _ _ h1.2
            case skip => exact ih _ _ _ h1.2
            case enter f' args =>
              refine h1.mono ?_
              rintro e W'' ⟨v, rfl, h2⟩
              exact ih _ _ _ h2.2
        · rename_i hw
          rw [if_neg hw] at h1
          exact ih _ _ _ h1.2
  have := sound _ _ _ _ H
  simpa using this
theorem wp_region_ord {P : Program} {id : Nat} {Q : Exit → Act → World → Prop} {a : Act} {w : World} {l : List Oper} (pl : List (Bool × Nat)) (C : World → Prop) (hC : ∀ W W', C W → Below W.heap.size W W' → C W') (h00 : C w) (hm : P.follows .mixedOrders = true)
    (hB : Region.ordB .any l.toArray pl = true) (h : ∀ W, Below w.heap.size w W → C W → wpMix P l.toArray C (fun a' W' => Q .normal a' W') (Region.picked l pl) a W) : (Code.region id l.toArray true).wp P Q a w := by
  simp only [Region.ordB, Bool.and_eq_true, decide_eq_true_eq, List.all_eq_true] at hB
  obtain ⟨⟨⟨hsel, hlen⟩, hlt⟩, hgo⟩ := hB
  have hCd : C w.drew := hC _ _ h00 ((Below.refl _ _).drew)
  have H := wpAnyX_ord (md := .any) (mixes_plain P l.toArray C) hC (exo := mOpO P l.toArray) (fun {i o K a W} h0 h1 => by unfold mOp; simp only [h0]; exact h1) hsel pl (Array.replicate l.toArray.size false) a w.drew
    hlt hCd hgo (h _ ((Below.refl _ _).drew) hCd)
  rw [hlen] at H
  refine wp_region_any hm ?_
  have sound : ∀ (f : Nat) (listed : Array Bool) (a' : Act) (W : World), wpAnyX .any l.toArray C (mOp P l.toArray) (fun a' W' => Q .normal a' W') f listed a' W → wpAny P .any l.toArray Q f listed a' W := by
    intro f
    induction f with
    | zero => exact fun listed a' W h => ⟨h.1, h.2 W (Below.refl _ _)⟩
    | succ f ih =>
      intro listed a' W hL
      refine ⟨fun h0 => absurd h0 hL.1, fun i hi => ?_⟩
      have h1 := hL.2 i hi W (Below.refl _ _)
      unfold mOp at h1
      unfold wpOp
      cases ho : l.toArray[i]? with
      | none => simp only [ho] at h1 ⊢; exact ih _ _ _ h1.2
      | some o =>
        simp only [ho] at h1 ⊢
        split
        · rename_i hw
          rw [if_pos hw] at h1
          left
          unfold Oper.calm at h1
          unfold Oper.wp
          generalize (execOp a'.eval o).run P W = r at h1 ⊢
          cases r with
          | halt x w' => simp only [Oper.calmUpon] at h1
          | ok x w' =>
            cases x <;> simp only [Oper.calmUpon] at h1 <;> simp only [Oper.upon]
            case value u => exact ih _ _ _ h1.2
            case skip => exact ih _ _ _ h1.2
            case enter f' args =>
              refine h1.mono ?_
              rintro e W'' ⟨v, rfl, h2⟩
              exact ih _ _ _ h2.2
        · rename_i hw
          rw [if_neg hw] at h1
          exact ih _ _ _ h1.2
  have := sound _ _ _ _ H
  simpa using this
end Go

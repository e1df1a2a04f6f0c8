/- THE SAME LAW INSIDE A FENCE (for iterators, whose rounds are called there). -/
import Derived.Test.YtpoaakdljpdkfaaDoorMix
set_option linter.unusedSimpArgs false
set_option linter.unusedVariables false
namespace Go
open Go.RowKit
def Oper.holdUpon (w : World) (v : Value) : Result Next → Prop
  | .ok (.value u) w' => w' = w ∧ u = v
  | .ok .skip w' => w' = w ∧ v = undef
  | _ => False
def Oper.holdAt (P : Program) (o : Oper) (a : Act) (w : World) (v : Value) : Prop := Oper.holdUpon w v ((execOp a.eval o).run P w)
def YieldsF (P : Program) (ops : Array Oper) (C : World → Prop) (o : Oper) (v : Value) (a : Act) : Prop :=
  ((Region.wanted o (yielded ops a.tmps) = true ∧ ∀ W, C W → o.holdAt P a W v) ∨ (Region.wanted o (yielded ops a.tmps) = false ∧ v = undef)) ∧ ∀ w, o.about P w a.eval = none
def Oper.calmUponIn (F : Fence) (n : Nat) (P : Program) (o : Oper) (a : Act) (K : Act → World → Prop) : Result Next → Prop
  | .ok (.value v) w' => K (a.put o.dst v) w'
  | .ok .skip w' => K (a.put o.dst undef) w'
  | .ok (.enter f args) w' => (F.depth.isSome = true → 1 ≤ n) ∧ CallsIn F (n - 1) P f args w' fun e w'' => ∃ v, e = .returned v ∧ K (a.put o.dst v) w''
  | .ok (.round l f tmps assign body) w' => (F.depth.isSome = true → 1 ≤ n) ∧ RoundIn F (n - 1) P l f tmps assign body w' fun e w'' => ∃ v, e = .returned v ∧ K (a.put o.dst v) w''
  | _ => False
def Oper.calmIn (F : Fence) (n : Nat) (P : Program) (o : Oper) (a : Act) (W : World) (K : Act → World → Prop) : Prop :=
  (∀ f, o.about P W a.eval = some f → F.fn f) ∧ o.calmUponIn F n P a K ((execOp a.eval o).run P W)
def mOpOIn (F : Fence) (n : Nat) (P : Program) (ops : Array Oper) (o : Oper) (K : Act → World → Prop) (a : Act) (W : World) : Prop :=
  if Region.wanted o (yielded ops a.tmps) then o.calmIn F n P a W K else (∀ f, o.about P W a.eval = some f → F.fn f) ∧ K (a.put o.dst undef) W
def mOpIn (F : Fence) (n : Nat) (P : Program) (ops : Array Oper) (i : Nat) (K : Act → World → Prop) (a : Act) (W : World) : Prop :=
  match ops[i]? with
  | none => K a W
  | some o => mOpOIn F n P ops o K a W
section
variable {F : Fence} {n : Nat} {P : Program} {ops : Array Oper} {C : World → Prop}
theorem Oper.calmUponIn_mono {o : Oper} {a : Act} {K K' : Act → World → Prop} (h : ∀ a w, K a w → K' a w) {r : Result Next} (hh : o.calmUponIn F n P a K r) : o.calmUponIn F n P a K' r := by
  cases r with
  | halt x w' => exact hh
  | ok x w' =>
    cases x <;> simp only [Oper.calmUponIn] at hh ⊢
    case value u => exact h _ _ hh
    case skip => exact h _ _ hh
    case enter f args => exact ⟨hh.1, hh.2.mono fun e w'' ⟨v, he, hk⟩ => ⟨v, he, h _ _ hk⟩⟩
    case round l f tmps assign body => exact ⟨hh.1, hh.2.mono fun e w'' ⟨v, he, hk⟩ => ⟨v, he, h _ _ hk⟩⟩
theorem mOpIn_mono {i : Nat} {a : Act} {W : World} {K K' : Act → World → Prop} (h : ∀ a w, K a w → K' a w) (hh : mOpIn F n P ops i K a W) : mOpIn F n P ops i K' a W := by
  unfold mOpIn at *
  split
  · exact h _ _ (by simpa [*] using hh)
  · rename_i o ho
    simp only [ho] at hh
    unfold mOpOIn at *
    split
    · rename_i hw; simp only [hw, if_true] at hh; exact ⟨hh.1, Oper.calmUponIn_mono h hh.2⟩
    · rename_i hw; simp only [hw] at hh; exact ⟨hh.1, h _ _ hh.2⟩
theorem mOpIn_quiet {i : Nat} {oi : Oper} {v : Value} {a : Act} {W : World} {K : Act → World → Prop} (hi : ops[i]? = some oi) (hy : YieldsF P ops C oi v a) (hb : C W) (h : ∀ W', Below W.heap.size W W' → K (a.put oi.dst v) W') : mOpIn F n P ops i K a W := by
  have hab : ∀ f, oi.about P W a.eval = some f → F.fn f := fun f hf => by rw [hy.2 W] at hf; cases hf
  unfold mOpIn mOpOIn
  simp only [hi]
  rcases hy.1 with ⟨hw, hv⟩ | ⟨hw, rfl⟩
  · simp only [hw, if_true]
    refine ⟨hab, ?_⟩
    have h5 := hv W hb
    unfold Oper.holdAt at h5
    generalize (execOp a.eval oi).run P W = r at h5 ⊢
    cases r with
    | halt x w' => simp only [Oper.holdUpon] at h5
    | ok x w' =>
      cases x <;> simp only [Oper.holdUpon] at h5 <;> simp only [Oper.calmUponIn]
      case value u => obtain ⟨rfl, rfl⟩ := h5; exact h _ (Below.refl _ _)
      case skip => obtain ⟨rfl, rfl⟩ := h5; exact h _ (Below.refl _ _)
  · simp only [hw, Bool.false_eq_true, if_false]
    exact ⟨hab, h _ (Below.refl _ _)⟩
theorem YieldsF.of_same {o : Oper} {v : Value} {a a' : Act} (hy : YieldsF P ops C o v a) (he : execOp a'.eval o = execOp a.eval o)
    (hw : Region.wanted o (yielded ops a'.tmps) = Region.wanted o (yielded ops a.tmps)) (hb : ∀ w, o.about P w a'.eval = o.about P w a.eval) : YieldsF P ops C o v a' := by
  refine ⟨?_, fun w => by rw [hb w]; exact hy.2 w⟩
  have h := hy.1
  unfold Oper.holdAt at *
  rw [he, hw]
  exact h
theorem mOpIn_put {j : Nat} {oi oj : Oper} {v : Value} (hj : ops[j]? = some oj) (hap : oi.apart ops oj = true)
    (hsi : ∀ cs b, oi.op ≠ .select cs b) (hsj : ∀ cs b, oj.op ≠ .select cs b) {K : Act → World → Prop} {a : Act} {W : World}
    (hy : YieldsF P ops C oi v a) (h : mOpIn F n P ops j K (a.put oi.dst v) W) :
    mOpIn F n P ops j (fun a' w' => YieldsF P ops C oi v a' ∧ K (a'.put oi.dst v) w') a W := by
  obtain ⟨h1, h2, h3⟩ := Oper.apart_spec hap
  have keep : ∀ (a : Act), YieldsF P ops C oi v a → ∀ u, YieldsF P ops C oi v (a.put oj.dst u) := fun a hy u =>
    hy.of_same (execOp_put oi hsi a oj.dst u h3) (wanted_put oi a oj.dst u h3) (fun w => about_put oi w a oj.dst u h3)
  unfold mOpIn mOpOIn at *
  simp only [hj] at *
  rw [wanted_put oj a oi.dst v h1, about_put oj W a oi.dst v h1] at h
  split
  · rename_i hw
    simp only [hw, if_true] at h
    refine ⟨by have := h.1; rwa [about_put oj W a oi.dst v h1] at this, ?_⟩
    have h := h.2
    rw [execOp_put oj hsj a oi.dst v h1] at h
    generalize (execOp a.eval oj).run P W = r at *
    cases r with
    | ok x w' =>
      cases x <;> simp only [Oper.calmUponIn] at h ⊢
      case value u => exact ⟨keep a hy u, by rw [← Act.put_comm a v u h2]; exact h⟩
      case skip => exact ⟨keep a hy _, by rw [← Act.put_comm a v undef h2]; exact h⟩
      case enter f args => exact ⟨h.1, h.2.mono fun e w'' ⟨u, he, hk⟩ => ⟨u, he, keep a hy u, by rw [← Act.put_comm a v u h2]; exact hk⟩⟩
      case round l f tmps assign body => exact ⟨h.1, h.2.mono fun e w'' ⟨u, he, hk⟩ => ⟨u, he, keep a hy u, by rw [← Act.put_comm a v u h2]; exact hk⟩⟩
    | halt x w' => simp only [Oper.calmUponIn] at h
  · rename_i hw
    simp only [hw] at h
    exact ⟨h.1, keep a hy _, by rw [← Act.put_comm a v undef h2]; exact h.2⟩
end
theorem mixes_in (F : Fence) (n : Nat) (P : Program) (ops : Array Oper) (C : World → Prop) : Mixes ops C (YieldsF P ops C) (mOpIn F n P ops) :=
  ⟨mOpIn_mono, fun hi hy hW h => mOpIn_quiet hi hy hW h, fun hj hap hsi hsj _ _ _ hy h => mOpIn_put hj hap hsi hsj hy h⟩
def wpMixIn (F : Fence) (n : Nat) (P : Program) (ops : Array Oper) (C : World → Prop) (L : Act → World → Prop) : List (Bool × Oper) → Act → World → Prop := wpMixX C (YieldsF P ops C) (mOpOIn F n P ops) L
section
variable {F : Fence} {n : Nat} {P : Program} {ops : Array Oper} {C : World → Prop} {L : Act → World → Prop} {a : Act} {W : World} {o : Oper} {rest : List (Bool × Oper)}
theorem wpMixIn_nil (h : ∀ W', Below W.heap.size W W' → L a W') : wpMixIn F n P ops C L [] a W := h
theorem wpMixIn_q (hg : o.guard = none) (hab : ∀ w, o.about P w a.eval = none) (h : ∀ K : Act → Prop, (∀ a, wpMixIn F n P ops C L rest a W → K a) → ∃ v, (∀ W', C W' → o.holdAt P a W' v) ∧ K (a.put o.dst v)) : wpMixIn F n P ops C L ((true, o) :: rest) a W := by
  obtain ⟨v, h1, h2⟩ := h _ (fun _ h => h)
  exact ⟨v, ⟨.inl ⟨by simp [Region.wanted, hg], h1⟩, hab⟩, h2⟩
/-- a quiet operation behind a guard that holds -/
theorem wpMixIn_qy (hab : ∀ w, o.about P w a.eval = none) (hw : Region.wanted o (yielded ops a.tmps) = true) (h : ∀ K : Act → Prop, (∀ a, wpMixIn F n P ops C L rest a W → K a) → ∃ v, (∀ W', C W' → o.holdAt P a W' v) ∧ K (a.put o.dst v)) : wpMixIn F n P ops C L ((true, o) :: rest) a W := by
  obtain ⟨v, h1, h2⟩ := h _ (fun _ h => h)
  exact ⟨v, ⟨.inl ⟨hw, h1⟩, hab⟩, h2⟩
/-- .. behind a guard that does not -/
theorem wpMixIn_qn (hab : ∀ w, o.about P w a.eval = none) (hw : Region.wanted o (yielded ops a.tmps) = false) (h : ∀ K : Act → Prop, (∀ a, wpMixIn F n P ops C L rest a W → K a) → K (a.put o.dst undef)) : wpMixIn F n P ops C L ((true, o) :: rest) a W :=
  ⟨undef, ⟨.inr ⟨hw, rfl⟩, hab⟩, h _ (fun _ h => h)⟩
theorem wpMixIn_s (hg : o.guard = none) (h : ∀ W', Below W.heap.size W W' → ∀ K : Act → World → Prop, (∀ a w, C w → wpMixIn F n P ops C L rest a w → K a w) → o.calmIn F n P a W' K) : wpMixIn F n P ops C L ((false, o) :: rest) a W := by
  intro W' hb
  unfold mOpOIn
  rw [if_pos (by simp [Region.wanted, hg])]
  exact h W' hb _ fun _ _ h1 h2 => ⟨h1, h2⟩
theorem wpMixIn_sy (hw : Region.wanted o (yielded ops a.tmps) = true) (h : ∀ W', Below W.heap.size W W' → ∀ K : Act → World → Prop, (∀ a w, C w → wpMixIn F n P ops C L rest a w → K a w) → o.calmIn F n P a W' K) : wpMixIn F n P ops C L ((false, o) :: rest) a W := by
  intro W' hb
  unfold mOpOIn
  rw [if_pos hw]
  exact h W' hb _ fun _ _ h1 h2 => ⟨h1, h2⟩
theorem wpMixIn_sn (hw : Region.wanted o (yielded ops a.tmps) = false) (hab : ∀ w, o.about P w a.eval = none) (h : ∀ W', Below W.heap.size W W' → ∀ K : Act → World → Prop, (∀ a w, C w → wpMixIn F n P ops C L rest a w → K a w) → K (a.put o.dst undef) W') : wpMixIn F n P ops C L ((false, o) :: rest) a W := by
  intro W' hb
  unfold mOpOIn
  rw [if_neg (by simp [hw])]
  exact ⟨(fun f hf => by rw [hab W'] at hf; cases hf), h W' hb (fun a'' W'' => C W'' ∧ wpMixX C (YieldsF P ops C) (mOpOIn F n P ops) L rest a'' W'') fun _ _ h1 h2 => ⟨h1, h2⟩⟩
end
def Region.noDefer (l : List Oper) : Bool := l.all fun o => match o.op with | .defer _ => false | _ => true
theorem Region.noDefer_spec {l : List Oper} (h : Region.noDefer l = true) {i : Nat} {o : Oper} (ho : l.toArray[i]? = some o) : ∀ c, o.op ≠ .defer c := by
  intro c hc
  rw [List.getElem?_toArray] at ho
  have := List.all_eq_true.1 h o (List.mem_of_getElem? ho)
  rw [hc] at this
  cases this
theorem wpIn_region_mix {F : Fence} {n : Nat} {P : Program} {id : Nat} {Q : Exit → Act → World → Prop} {a : Act} {w : World} {l : List Oper} (hnd : Region.noDefer l = true) (fl : List Bool) (C : World → Prop) (hC : ∀ W W', C W → Below W.heap.size W W' → C W') (h00 : C w) (hm : P.follows .mixedOrders = true)
    (hB : Region.mixB .any l.toArray fl = true) (h : ∀ W, Below w.heap.size w W → C W → wpMixIn F n P l.toArray C (fun a' W' => Q .normal a' W') (fl.zip l) a W) : (Code.region id l.toArray true).wpIn F n P Q a w := by
  simp only [Region.mixB, Bool.and_eq_true, decide_eq_true_eq] at hB
  obtain ⟨⟨hsel, hlen⟩, hgo⟩ := hB
  have hlen' : fl.length = l.length := by simpa using hlen
  have hzl : (fl.zip l).length = l.length := by simp [hlen']
  have hCd : C w.drew := hC _ _ h00 ((Below.refl _ _).drew)
  have H := wpAnyX_lex (md := .any) (mixes_in F n P l.toArray C) hC (exo := mOpOIn F n P l.toArray) (fun {i o K a W} h0 h1 => by unfold mOpIn; simp only [h0]; exact h1) hsel (fl.zip l) 0 (Array.replicate l.toArray.size false) a w.drew
    (fun j hj => by
      rw [hzl] at hj
      rw [Nat.zero_add, ← List.getElem?_map, show (fl.zip l).map (·.2) = l by rw [List.map_snd_zip (by omega)], List.getElem?_toArray]) hCd
    (by rw [show (fl.zip l).map (·.1) = fl by rw [List.map_fst_zip (by omega)]]; exact hgo) (h _ ((Below.refl _ _).drew) hCd)
  rw [hzl] at H
  refine wpIn_region_any hm ?_
  have sound : ∀ (f : Nat) (listed : Array Bool) (a' : Act) (W : World), wpAnyX .any l.toArray C (mOpIn F n P l.toArray) (fun a' W' => Q .normal a' W') f listed a' W → wpAnyIn F n P .any l.toArray Q f listed a' W := by
    intro f
    induction f with
    | zero => exact fun listed a' W h => ⟨h.1, h.2 W (Below.refl _ _)⟩
    | succ f ih =>
      intro listed a' W hL
      refine ⟨fun h0 => absurd h0 hL.1, fun i hi => ?_⟩
      have h1 := hL.2 i hi W (Below.refl _ _)
      unfold mOpIn at h1
      unfold wpOpIn
      cases ho : l.toArray[i]? with
      | none => simp only [ho] at h1 ⊢; exact ih _ _ _ h1.2
      | some o =>
        simp only [ho] at h1 ⊢
        unfold mOpOIn at h1
        split
        · rename_i hw
          rw [if_pos hw] at h1
          refine ⟨h1.1, ?_⟩
          have h1 := h1.2
          rw [Oper.semAt_eq _ _ _ (Region.noDefer_spec hnd ho)]
          generalize (execOp a'.eval o).run P W = r at h1 ⊢
          cases r with
          | halt x w' => simp only [Oper.calmUponIn] at h1
          | ok x w' =>
            cases x <;> simp only [Oper.calmUponIn] at h1 <;> simp only [Oper.uponIn]
            case value u => exact ih _ _ _ h1.2
            case skip => exact ih _ _ _ h1.2
            case enter f' args =>
              refine ⟨h1.1, h1.2.mono ?_⟩
              rintro e W'' ⟨v, rfl, h2⟩
              exact ih _ _ _ h2.2
            case round l' f' tmps assign body =>
              refine ⟨h1.1, h1.2.mono ?_⟩
              rintro e W'' ⟨v, rfl, h2⟩
              exact ih _ _ _ h2.2
        · rename_i hw
          rw [if_neg hw] at h1
          exact ⟨h1.1, ih _ _ _ h1.2.2⟩
  have := sound _ _ _ _ H
  simpa using this
theorem wpIn_region_ord {F : Fence} {n : Nat} {P : Program} {id : Nat} {Q : Exit → Act → World → Prop} {a : Act} {w : World} {l : List Oper} (hnd : Region.noDefer l = true) (pl : List (Bool × Nat)) (C : World → Prop) (hC : ∀ W W', C W → Below W.heap.size W W' → C W') (h00 : C w) (hm : P.follows .mixedOrders = true)
    (hB : Region.ordB .any l.toArray pl = true) (h : ∀ W, Below w.heap.size w W → C W → wpMixIn F n P l.toArray C (fun a' W' => Q .normal a' W') (Region.picked l pl) a W) : (Code.region id l.toArray true).wpIn F n P Q a w := by
  simp only [Region.ordB, Bool.and_eq_true, decide_eq_true_eq, List.all_eq_true] at hB
  obtain ⟨⟨⟨hsel, hlen⟩, hlt⟩, hgo⟩ := hB
  have hCd : C w.drew := hC _ _ h00 ((Below.refl _ _).drew)
  have H := wpAnyX_ord (md := .any) (mixes_in F n P l.toArray C) hC (exo := mOpOIn F n P l.toArray) (fun {i o K a W} h0 h1 => by unfold mOpIn; simp only [h0]; exact h1) hsel pl (Array.replicate l.toArray.size false) a w.drew
    hlt hCd hgo (h _ ((Below.refl _ _).drew) hCd)
  rw [hlen] at H
  refine wpIn_region_any hm ?_
  have sound : ∀ (f : Nat) (listed : Array Bool) (a' : Act) (W : World), wpAnyX .any l.toArray C (mOpIn F n P l.toArray) (fun a' W' => Q .normal a' W') f listed a' W → wpAnyIn F n P .any l.toArray Q f listed a' W := by
    intro f
    induction f with
    | zero => exact fun listed a' W h => ⟨h.1, h.2 W (Below.refl _ _)⟩
    | succ f ih =>
      intro listed a' W hL
      refine ⟨fun h0 => absurd h0 hL.1, fun i hi => ?_⟩
      have h1 := hL.2 i hi W (Below.refl _ _)
      unfold mOpIn at h1
      unfold wpOpIn
      cases ho : l.toArray[i]? with
      | none => simp only [ho] at h1 ⊢; exact ih _ _ _ h1.2
      | some o =>
        simp only [ho] at h1 ⊢
        unfold mOpOIn at h1
        split
        · rename_i hw
          rw [if_pos hw] at h1
          refine ⟨h1.1, ?_⟩
          have h1 := h1.2
          rw [Oper.semAt_eq _ _ _ (Region.noDefer_spec hnd ho)]
          generalize (execOp a'.eval o).run P W = r at h1 ⊢
          cases r with
          | halt x w' => simp only [Oper.calmUponIn] at h1
          | ok x w' =>
            cases x <;> simp only [Oper.calmUponIn] at h1 <;> simp only [Oper.uponIn]
            case value u => exact ih _ _ _ h1.2
            case skip => exact ih _ _ _ h1.2
            case enter f' args =>
              refine ⟨h1.1, h1.2.mono ?_⟩
              rintro e W'' ⟨v, rfl, h2⟩
              exact ih _ _ _ h2.2
            case round l' f' tmps assign body =>
              refine ⟨h1.1, h1.2.mono ?_⟩
              rintro e W'' ⟨v, rfl, h2⟩
              exact ih _ _ _ h2.2
        · rename_i hw
          rw [if_neg hw] at h1
          exact ⟨h1.1, ih _ _ _ h1.2.2⟩
  have := sound _ _ _ _ H
  simpa using this
end Go

/- THE PLAIN LAW OF THE CHOICE BETWEEN STATES. -/
import Derived.Test.YtpoaakdljpdkfaaDoorGrow
set_option linter.unusedSimpArgs false
namespace Go.Alm

/-! order -/
def cmpN (a b : Nat) : Int := if a < b then -1 else if b < a then 1 else 0
def cmpL : List Nat → List Nat → Int
  | [], [] => 0
  | [], _ :: _ => -1
  | _ :: _, [] => 1
  | a :: l, b :: m => if cmpN a b ≠ 0 then cmpN a b else cmpL l m



def keyOf (s : St) : Ky := ⟨s.length, s.draw, hashOf s⟩
def compareK (a b : Ky) : Int :=
  if cmpN a.length b.length ≠ 0 then cmpN a.length b.length
  else if cmpL a.draw.l b.draw.l ≠ 0 then cmpL a.draw.l b.draw.l
  else cmpL a.hash.l b.hash.l

theorem cmpN_anti (a b : Nat) : cmpN b a = - cmpN a b := by unfold cmpN; (repeat' split) <;> omega
theorem cmpN_eq (a b : Nat) : cmpN a b = 0 ↔ a = b := by unfold cmpN; (repeat' split) <;> omega
theorem cmpN_val (a b : Nat) : cmpN a b = -1 ∨ cmpN a b = 0 ∨ cmpN a b = 1 := by unfold cmpN; (repeat' split) <;> omega
theorem cmpN_trans {a b c : Nat} (h : cmpN a b ≤ 0) (k : cmpN b c ≤ 0) : cmpN a c ≤ 0 := by unfold cmpN at *; (repeat' split at h) <;> (repeat' split at k) <;> (repeat' split) <;> omega

theorem cmpL_anti : ∀ l m, cmpL m l = - cmpL l m
  | [], [] => rfl
  | [], _ :: _ => rfl
  | _ :: _, [] => rfl
  | a :: l, b :: m => by
    simp only [cmpL]
    have h := cmpN_anti a b
    have ih := cmpL_anti l m
    by_cases e : cmpN a b = 0
    · have e2 : cmpN b a = 0 := by omega
      simp [e, e2, ih]
    · have e2 : ¬ cmpN b a = 0 := by omega
      simp [e, e2, h]

theorem cmpL_eq : ∀ l m, cmpL l m = 0 ↔ l = m
  | [], [] => by simp [cmpL]
  | [], _ :: _ => by simp [cmpL]
  | _ :: _, [] => by simp [cmpL]
  | a :: l, b :: m => by
    simp only [cmpL]
    have ih := cmpL_eq l m
    have h := cmpN_eq a b
    by_cases e : cmpN a b = 0
    · obtain rfl := h.1 e
      simp [e, ih]
    · have : a ≠ b := fun k => e (h.2 k)
      simp [e, this]

theorem cmpL_trans : ∀ l m n, cmpL l m ≤ 0 → cmpL m n ≤ 0 → cmpL l n ≤ 0
  | [], _, [] => fun _ _ => by simp [cmpL]
  | [], _, _ :: _ => fun _ _ => by simp [cmpL]
  | _ :: _, [], _ => fun h _ => by simp [cmpL] at h
  | _ :: _, _ :: _, [] => fun _ h => by simp [cmpL] at h
  | a :: l, b :: m, c :: n => fun h k => by
    have ih := cmpL_trans l m n
    simp only [cmpL] at h k ⊢
    have e1 := cmpN_eq a b
    have e2 := cmpN_eq b c
    have e3 := cmpN_eq a c
    have t := @cmpN_trans a b c
    by_cases h1 : cmpN a b = 0
    · have := e1.1 h1
      subst this
      by_cases h2 : cmpN a c = 0
      · simp only [h1, h2, ne_eq, not_true, if_false] at h k ⊢
        exact ih h k
      · simp only [h1, h2, ne_eq, not_true, not_false_eq_true, if_true, if_false] at h k ⊢
        exact k
    · simp only [h1, ne_eq, not_false_eq_true, if_true] at h
      by_cases h2 : cmpN b c = 0
      · have := e2.1 h2
        subst this
        simp only [h1, ne_eq, not_false_eq_true, if_true]
        exact h
      · simp only [h2, ne_eq, not_false_eq_true, if_true] at k
        have h3 : ¬ cmpN a c = 0 := by
          intro e
          have := e3.1 e
          subst this
          have := cmpN_anti a b
          omega
        simp only [h3, ne_eq, not_false_eq_true, if_true]
        exact t h k

theorem compareK_anti (a b : Ky) : compareK b a = - compareK a b := by
  unfold compareK
  have h1 := cmpN_anti a.length b.length
  have h2 := cmpL_anti a.draw.l b.draw.l
  have h3 := cmpL_anti a.hash.l b.hash.l
  (repeat' split) <;> omega

theorem compareK_eq (a b : Ky) : compareK a b = 0 ↔ a = b := by
  unfold compareK
  have h1 := cmpN_eq a.length b.length
  have h2 := cmpL_eq a.draw.l b.draw.l
  have h3 := cmpL_eq a.hash.l b.hash.l
  constructor
  · intro h
    by_cases e1 : cmpN a.length b.length = 0
    · by_cases e2 : cmpL a.draw.l b.draw.l = 0
      · simp [e1, e2] at h
        cases a; cases b
        simp only [Ky.mk.injEq]
        exact ⟨h1.1 e1, H32.ext (h2.1 e2), H32.ext (h3.1 h)⟩
      · simp [e1, e2] at h
    · simp [e1] at h
  · rintro rfl
    simp [h1, h2, h3]

theorem compareK_trans {a b c : Ky} (h : compareK a b ≤ 0) (k : compareK b c ≤ 0) : compareK a c ≤ 0 := by
  unfold compareK at *
  have a1 := cmpN_eq a.length b.length
  have a2 := cmpN_eq b.length c.length
  have a3 := cmpN_eq a.length c.length
  have a4 := @cmpN_trans a.length b.length c.length
  have a5 := cmpN_anti a.length b.length
  have b1 := cmpL_eq a.draw.l b.draw.l
  have b2 := cmpL_eq b.draw.l c.draw.l
  have b3 := cmpL_eq a.draw.l c.draw.l
  have b4 := cmpL_trans a.draw.l b.draw.l c.draw.l
  have b5 := cmpL_anti a.draw.l b.draw.l
  have c4 := cmpL_trans a.hash.l b.hash.l c.hash.l
  by_cases e1 : a.length = b.length
  · by_cases e2 : b.length = c.length
    · have e3 : a.length = c.length := e1.trans e2
      simp only [a1.2 e1, a2.2 e2, a3.2 e3, ne_eq, not_true, if_false] at h k ⊢
      by_cases f1 : a.draw.l = b.draw.l
      · by_cases f2 : b.draw.l = c.draw.l
        · have f3 := f1.trans f2
          simp only [b1.2 f1, b2.2 f2, b3.2 f3, ne_eq, not_true, if_false] at h k ⊢
          exact c4 h k
        · rw [← f1] at k f2
          have g : ¬ cmpL a.draw.l c.draw.l = 0 := fun e => f2 (b3.1 e)
          simp only [g, ne_eq, not_false_eq_true, if_true] at k ⊢
          exact k
      · have g1 : ¬ cmpL a.draw.l b.draw.l = 0 := fun e => f1 (b1.1 e)
        simp only [g1, ne_eq, not_false_eq_true, if_true] at h
        by_cases f2 : b.draw.l = c.draw.l
        · rw [← f2]; simp only [g1, ne_eq, not_false_eq_true, if_true]; exact h
        · have g2 : ¬ cmpL b.draw.l c.draw.l = 0 := fun e => f2 (b2.1 e)
          simp only [g2, ne_eq, not_false_eq_true, if_true] at k
          have g3 : ¬ cmpL a.draw.l c.draw.l = 0 := by
            intro e
            have e' := b3.1 e
            rw [← e'] at k
            omega
          simp only [g3, ne_eq, not_false_eq_true, if_true]
          exact b4 h k
    · rw [← e1] at k e2
      have g : ¬ cmpN a.length c.length = 0 := fun e => e2 (a3.1 e)
      simp only [g, ne_eq, not_false_eq_true, if_true] at k ⊢
      exact k
  · have g1 : ¬ cmpN a.length b.length = 0 := fun e => e1 (a1.1 e)
    simp only [g1, ne_eq, not_false_eq_true, if_true] at h
    by_cases e2 : b.length = c.length
    · rw [← e2]; simp only [g1, ne_eq, not_false_eq_true, if_true]; exact h
    · have g2 : ¬ cmpN b.length c.length = 0 := fun e => e2 (a2.1 e)
      simp only [g2, ne_eq, not_false_eq_true, if_true] at k
      have g3 : ¬ cmpN a.length c.length = 0 := by
        intro e
        have e' := a3.1 e
        rw [← e'] at k
        omega
      simp only [g3, ne_eq, not_false_eq_true, if_true]
      exact a4 h k

/-- the place of the greatest key: the program's loop -/
def greatestFrom : List Ky → Nat → List Ky → Int → Int
  | _, _, [], at_ => at_
  | all, i, k :: l, at_ => greatestFrom all (i+1) l (if at_ < 0 ∨ compareK k (all.getD at_.toNat ⟨0, zeroH, zeroH⟩) > 0 then i else at_)
def greatest (l : List Ky) : Int := greatestFrom l 0 l (-1)

/-! choose -/
def behind (a b : St) : Bool :=
  decide (epochOf a.slot < epochOf b.slot) && decide (epochOf b.slot - epochOf a.slot = 1) && !locking a.slot && decide (b.epochs.now.lock = a.epochs.next.lock)
def beside (a b : St) : Bool := decide (epochOf a.slot = epochOf b.slot) && decide (a.epochs.now.lock = b.epochs.now.lock)
def near (a b : St) : Bool := beside a b || behind a b || behind b a
def densities (a b : St) : Nat × Nat := let s := max a.slot b.slot; (least a.win s, least b.win s)
def wins (tip c : St) : Bool :=
  let d := densities tip c
  if near tip c = false ∧ d.1 ≠ d.2 then decide (d.1 < d.2) else decide (compareK (keyOf c) (keyOf tip) > 0)
def foldT : St → List St → Nat → St × Nat
  | t, [], n => (t, n)
  | t, s :: l, n => if wins t s then foldT s l (n+1) else foldT t l n

theorem near_symm (a b : St) : near a b = near b a := by
  unfold near beside
  have h1 : decide (epochOf a.slot = epochOf b.slot) = decide (epochOf b.slot = epochOf a.slot) := by simp [eq_comm]
  have h2 : decide (a.epochs.now.lock = b.epochs.now.lock) = decide (b.epochs.now.lock = a.epochs.now.lock) := by simp [eq_comm]
  rw [h1, h2, Bool.or_assoc, Bool.or_assoc, Bool.or_comm (behind a b)]
theorem near_self (a : St) : near a a = true := by simp [near, beside]
theorem densities_symm (a b : St) : densities a b = ((densities b a).2, (densities b a).1) := by
  unfold densities; simp only [Nat.max_comm]
theorem wins_self (a : St) : wins a a = false := by
  unfold wins
  have := (compareK_eq (keyOf a) (keyOf a)).2 rfl
  simp [near_self, this]
theorem wins_not_both {a b : St} (h : wins a b = true) : wins b a = false := by
  unfold wins at *
  rw [densities_symm b a, near_symm b a]
  simp only at *
  have hc := compareK_anti (keyOf a) (keyOf b)
  by_cases e : near a b = false ∧ (densities a b).1 ≠ (densities a b).2
  · have e2 : near a b = false ∧ (densities a b).2 ≠ (densities a b).1 := ⟨e.1, fun h => e.2 h.symm⟩
    rw [if_pos e] at h
    rw [if_pos e2]
    simp at h ⊢
    omega
  · have e2 : ¬ (near a b = false ∧ (densities a b).2 ≠ (densities a b).1) := fun k => e ⟨k.1, fun h => k.2 h.symm⟩
    rw [if_neg e] at h
    rw [if_neg e2]
    simp at h ⊢
    omega
theorem wins_one {a b : St} (h : hashOf a ≠ hashOf b) : wins a b = true ∨ wins b a = true := by
  unfold wins at *
  rw [densities_symm b a, near_symm b a]
  simp only at *
  have hc := compareK_anti (keyOf a) (keyOf b)
  have he := compareK_eq (keyOf a) (keyOf b)
  have hne : compareK (keyOf a) (keyOf b) ≠ 0 := fun k => h (by have := he.1 k; exact congrArg Ky.hash this)
  by_cases e : near a b = false ∧ (densities a b).1 ≠ (densities a b).2
  · have e2 : near a b = false ∧ (densities a b).2 ≠ (densities a b).1 := ⟨e.1, fun h => e.2 h.symm⟩
    rw [if_pos e, if_pos e2]
    simp
    omega
  · have e2 : ¬ (near a b = false ∧ (densities a b).2 ≠ (densities a b).1) := fun k => e ⟨k.1, fun h => k.2 h.symm⟩
    rw [if_neg e, if_neg e2]
    simp
    omega
theorem foldT_append (t : St) (l m : List St) (n : Nat) : foldT t (l ++ m) n = foldT (foldT t l n).1 m (foldT t l n).2 := by
  induction l generalizing t n with
  | nil => rfl
  | cons s l ih => simp only [List.cons_append, foldT]; split <;> exact ih _ _
end Go.Alm

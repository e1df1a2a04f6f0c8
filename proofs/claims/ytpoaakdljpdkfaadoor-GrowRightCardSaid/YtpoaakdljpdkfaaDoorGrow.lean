/- THE PLAIN LAW OF GrowRight: a child of a state that is right is right, or it is refused for one of the named reasons. -/
import Derived.Test.YtpoaakdljpdkfaaDoorSpec
namespace Go.Alm

theorem C4.parts (c : C4) : ∃ x y z u, c = ⟨[x, y, z, u], rfl⟩ := by
  obtain ⟨l, h⟩ := c
  match l, h with
  | [x, y, z, u], _ => exact ⟨x, y, z, u, rfl⟩

theorem C4.get_put (c : C4) (i v : Nat) (h : i < 4) : (c.put i v).get i = v := by
  have := c.len
  simp [C4.get, C4.put, List.getD_eq_getElem?_getD, this, h]

theorem C4.mem_put {c : C4} {i v x : Nat} (h : x ∈ (c.put i v).l) : x ∈ c.l ∨ x = v := List.mem_or_eq_of_mem_set h

theorem le_passedC (last : Nat) (cs : C4) (sub : Nat) (h : ∀ x ∈ cs.l, x ≤ 3) : ∀ x ∈ (passedC last cs sub).l, x ≤ 3 := by
  unfold passedC
  have key : ∀ (l : List Nat) (c : C4), (∀ x ∈ c.l, x ≤ 3) → ∀ x ∈ (l.foldl (fun c i => c.put ((last % 4 + 1 + i) % 4) 0) c).l, x ≤ 3 := by
    intro l
    induction l with
    | nil => intro c h; exact h
    | cons x l ih =>
      intro c h
      refine ih _ ?_
      intro y hy
      rcases C4.mem_put hy with h1 | h1
      · exact h y h1
      · omega
  refine key _ _ ?_
  split
  · intro x hx; simp [zeroC] at hx; omega
  · exact h

/-- what is known of numbers in memory -/
structure Rg.Wf (r : Rg) : Prop where
  last : r.last < 4294967296
  counts : ∀ x ∈ r.counts.l, x < 4294967296

structure Wn.Wf (w : Wn) : Prop where
  min : w.min < 4294967296
  ring : w.ring.Wf

structure St.Wf (s : St) : Prop where
  slot : s.slot < 4294967296
  length : s.length < 4294967296
  count : s.count < 4294967296
  win : s.win.Wf
  now : s.epochs.now.length < 4294967296
  next : s.epochs.next.length < 4294967296

theorem ringRight_iff (r : Rg) : ringRight r = true ↔ (∀ x ∈ r.counts.l, x ≤ 3) ∧ 0 < r.counts.get (r.last % 4) := by
  unfold ringRight
  simp only [Bool.and_eq_true, List.all_eq_true, decide_eq_true_eq, bne_iff_ne, ne_eq]
  constructor
  · rintro ⟨⟨h, _⟩, h2⟩; exact ⟨h, h2⟩
  · rintro ⟨h, h2⟩
    refine ⟨⟨h, ?_⟩, h2⟩
    intro e
    rw [e] at h2
    have : ∀ k, k < 4 → zeroC.get k = 0 := by decide
    rw [this _ (Nat.mod_lt _ (by omega))] at h2
    omega

theorem putR_right {r : Rg} {sub : Nat} (hr : ringRight r = true) (h0 : (putR r sub).2 = 0) :
    ringRight (putR r sub).1 = true ∧ (putR r sub).1.last = sub := by
  rw [ringRight_iff] at hr
  rw [ringRight_iff]
  have hm : sub % 4 < 4 := Nat.mod_lt _ (by omega)
  unfold putR at h0 ⊢
  by_cases h1 : sub < r.last
  · rw [if_pos h1] at h0; simp at h0
  rw [if_neg h1] at h0 ⊢
  by_cases h2 : sub = r.last ∧ 3 ≤ r.counts.get (sub % 4)
  · rw [if_pos h2] at h0; simp at h0
  rw [if_neg h2] at h0 ⊢
  by_cases h3 : r.last < sub
  · simp only [if_pos h3]
    rw [C4.get_put _ _ _ hm, C4.get_put _ _ _ hm]
    refine ⟨⟨?_, by omega⟩, trivial⟩
    intro x hx
    rcases C4.mem_put hx with h | h
    · rcases C4.mem_put h with h | h
      · exact le_passedC _ _ _ hr.1 x h
      · omega
    · omega
  · simp only [if_neg h3]
    have e : sub = r.last := by omega
    subst e
    have h4 : r.counts.get (r.last % 4) < 3 := by
      rcases Nat.lt_or_ge (r.counts.get (r.last % 4)) 3 with h | h
      · exact h
      · exact absurd ⟨rfl, h⟩ h2
    rw [C4.get_put _ _ _ hm]
    refine ⟨⟨?_, by omega⟩, rfl⟩
    intro x hx
    rcases C4.mem_put hx with h | h
    · exact hr.1 x h
    · omega

theorem putR_err (r : Rg) (sub : Nat) : (putR r sub).2 = 0 ∨ (putR r sub).2 = 6 ∨ (putR r sub).2 = 11 := by
  unfold putR; split
  · simp
  · split <;> simp

theorem follow_err (p : Pr) (f t : Nat) (a b c : H32) : (follow p f t a b c).2 = 0 ∨ (follow p f t a b c).2 = 6 ∨ (follow p f t a b c).2 = 5 := by
  unfold follow
  split
  · simp
  · simp only
    split
    · simp
    · split <;> simp

theorem right_iff (s : St) : right s = true ↔ winRight s.win = true ∧ s.win.ring.last = subOf s.slot ∧ 0 < s.length ∧ s.length - 1 ≤ s.slot ∧ s.count ≤ epochOf s.slot ∧ s.count < s.length ∧ 0 < s.epochs.next.length ∧ s.epochs.next.length ≤ s.length ∧ s.epochs.next.length - 1 ≤ placeOf s.slot := by
  unfold right
  simp only [Bool.and_eq_true, decide_eq_true_eq]
  constructor
  · rintro ⟨⟨⟨⟨⟨⟨⟨⟨h1, h2⟩, h3⟩, h4⟩, h5⟩, h6⟩, h7⟩, h8⟩, h9⟩; exact ⟨h1, h2, h3, h4, h5, h6, h7, h8, h9⟩
  · rintro ⟨h1, h2, h3, h4, h5, h6, h7, h8, h9⟩; exact ⟨⟨⟨⟨⟨⟨⟨⟨h1, h2⟩, h3⟩, h4⟩, h5⟩, h6⟩, h7⟩, h8⟩, h9⟩

theorem least_le (w : Wn) (s : Nat) : least w s ≤ w.min := by
  unfold least; simp only; split
  · omega
  · exact Nat.min_le_left _ _

theorem follow_next {p : Pr} {f t : Nat} {a b c : H32} (h : (follow p f t a b c).2 = 0) :
    (follow p f t a b c).1.next.length = if epochOf f < epochOf t then 1 else p.next.length + 1 := by
  unfold follow at h ⊢
  by_cases h1 : t ≤ f
  · rw [if_pos h1] at h; simp at h
  rw [if_neg h1] at h ⊢
  by_cases h2 : epochOf f < epochOf t
  · simp [h2]
    split <;> rfl
  · by_cases h3 : 4294967296 ≤ p.next.length + 1
    · simp [h2, h3] at h
    · simp [h2, h3]
      split <;> rfl

/-- THE PLAIN LAW OF GrowRight -/
theorem child_right {s : St} {b : Bk} (hr : right s = true) (h0 : (child s b).2 = 0) :
    right (child s b).1 = true ∧ (child s b).1.length = s.length + 1 ∧ s.length + 1 < 4294967296 ∧ s.slot < b.slot ∧ (child s b).1.slot = b.slot ∧ (child s b).1.prev = hashOf s
     ∧ (child s b).1.ledger = b.ledger ∧ (child s b).1.draw = b.draw ∧ (child s b).1.win.min ≤ s.win.min ∧ ((child s b).1.count = s.count ∨ (child s b).1.count = s.count + 1) ∧ (child s b).1.count < 4294967296 := by
  rw [right_iff] at hr
  obtain ⟨r1, r2, r3, r4, r5, r6, r7, r8, r9⟩ := hr
  unfold child at h0 ⊢
  by_cases h1 : b.slot ≤ s.slot
  · rw [if_pos h1] at h0; simp at h0
  rw [if_neg h1] at h0 ⊢
  simp only at h0 ⊢
  generalize ht : (if epochOf s.slot < epochOf b.slot then 1 else 0) = turn at h0 ⊢
  by_cases e1 : 4294967296 ≤ s.length + 1
  · simp [e1] at h0
  by_cases e2 : 4294967296 ≤ s.count + turn
  · simp [e1, e2] at h0
  by_cases e3 : (putW s.win b.slot).2 = 0
  case neg => simp [e1, e2, e3] at h0
  by_cases e4 : (follow s.epochs s.slot b.slot (hashOf s) s.ledger b.draw).2 = 0
  case neg => simp [e1, e2, e3, e4] at h0
  simp only [e1, e2, e3, e4, if_false, ne_eq, not_true, ite_self]
  have hw := follow_next e4
  unfold winRight at r1
  simp only [Bool.and_eq_true, decide_eq_true_eq] at r1
  have e5 : (putR s.win.ring (subOf b.slot)).2 = 0 := by
    unfold putW at e3; simp only at e3
    by_cases h : (putR s.win.ring (subOf b.slot)).2 = 0
    · exact h
    · simp [h] at e3
  obtain ⟨p1, p2⟩ := putR_right r1.2 e5
  have hwin : (putW s.win b.slot).1 = ⟨least s.win b.slot, (putR s.win.ring (subOf b.slot)).1⟩ := by
    unfold putW; simp [e5]
  have hle := least_le s.win b.slot
  refine ⟨?_, by simp, by omega, by omega, by simp, by simp, by simp, by simp, ?_, ?_, by omega⟩
  · rw [right_iff]
    simp only [hwin, hw]
    unfold winRight
    simp only [Bool.and_eq_true, decide_eq_true_eq]
    unfold epochOf placeOf at *
    refine ⟨⟨by omega, p1⟩, p2, by omega, by omega, ?_, ?_, ?_, ?_, ?_⟩
    · by_cases h : s.slot / 24 < b.slot / 24 <;> simp only [h, if_true, if_false] at ht <;> omega
    · by_cases h : s.slot / 24 < b.slot / 24 <;> simp only [h, if_true, if_false] at ht <;> omega
    · by_cases h : s.slot / 24 < b.slot / 24 <;> simp only [h, if_true, if_false] <;> omega
    · by_cases h : s.slot / 24 < b.slot / 24 <;> simp only [h, if_true, if_false] <;> omega
    · by_cases h : s.slot / 24 < b.slot / 24 <;> simp only [h, if_true, if_false] <;> omega
  · rw [hwin]; exact hle
  · by_cases h : epochOf s.slot < epochOf b.slot <;> simp only [h, if_true, if_false] at ht <;> omega

theorem child_err {s : St} {b : Bk} (h0 : (child s b).2 ≠ 0) : (child s b).1 = state0 ∧ ((child s b).2 = 6 ∨ (child s b).2 = 5 ∨ (child s b).2 = 11) := by
  unfold child at h0 ⊢
  by_cases h1 : b.slot ≤ s.slot
  · rw [if_pos h1]; simp
  rw [if_neg h1] at h0 ⊢
  simp only at h0 ⊢
  generalize ht : (if epochOf s.slot < epochOf b.slot then 1 else 0) = turn at h0 ⊢
  have hp : (putW s.win b.slot).2 = 0 ∨ (putW s.win b.slot).2 = 6 ∨ (putW s.win b.slot).2 = 11 := by
    have := putR_err s.win.ring (subOf b.slot)
    unfold putW; simp only
    split
    · exact this
    · simp
  have hf := follow_err s.epochs s.slot b.slot (hashOf s) s.ledger b.draw
  generalize (putW s.win b.slot).2 = x at *
  generalize (follow s.epochs s.slot b.slot (hashOf s) s.ledger b.draw).2 = y at *
  by_cases e1 : 4294967296 ≤ s.length + 1
  · simp [e1]
  by_cases e2 : 4294967296 ≤ s.count + turn
  · simp [e1, e2]
  by_cases e3 : x = 0
  · by_cases e4 : y = 0
    · simp [e1, e2, e3, e4] at h0
    · simp [e1, e2, e3, e4]; omega
  · simp [e1, e2, e3]; omega
end Go.Alm

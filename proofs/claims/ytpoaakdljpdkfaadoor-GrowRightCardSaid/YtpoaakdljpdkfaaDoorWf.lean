/- NUMBERS STAY IN 32 BITS: a child's, a chain's. -/
import Derived.Test.YtpoaakdljpdkfaaDoorGrow
set_option linter.unusedVariables false
namespace Go.Alm
theorem lt_passedC (last : Nat) (cs : C4) (sub : Nat) (h : ∀ x ∈ cs.l, x < 4294967296) : ∀ x ∈ (passedC last cs sub).l, x < 4294967296 := by
  unfold passedC
  have key : ∀ (l : List Nat) (c : C4), (∀ x ∈ c.l, x < 4294967296) → ∀ x ∈ (l.foldl (fun c i => c.put ((last % 4 + 1 + i) % 4) 0) c).l, x < 4294967296 := by
    intro l
    induction l with
    | nil => intro c h; exact h
    | cons x l ih =>
      intro c h
      refine ih _ ?_
      intro y hy
      rcases C4.mem_put hy with h1 | h1
      · exact h y h1
      · omega
  refine key _ _ ?_
  split
  · intro x hx; simp [zeroC] at hx; omega
  · exact h
theorem putR_wf {r : Rg} {sub : Nat} (h : r.Wf) (hs : sub < 4294967296) : (putR r sub).1.Wf := by
  have h0 : ring0.Wf := ⟨by decide, by intro x hx; simp [ring0, zeroC] at hx; omega⟩
  unfold putR
  split
  · exact h0
  split
  · exact h0
  have hc : ∀ x ∈ (if r.last < sub then (⟨sub, (passedC r.last r.counts sub).put (sub % 4) 0⟩ : Rg) else r).counts.l, x < 4294967296 := by
    split
    · intro x hx
      rcases C4.mem_put hx with h1 | h1
      · exact lt_passedC _ _ _ h.counts x h1
      · omega
    · exact h.counts
  refine ⟨?_, ?_⟩
  · simp only; split
    · exact hs
    · exact h.last
  · intro x hx
    rcases C4.mem_put hx with h1 | h1
    · exact hc x h1
    · rw [h1]; exact Nat.mod_lt _ (by omega)
theorem putW_wf {w : Wn} {s : Nat} (h : w.Wf) (hs : s < 4294967296) : (putW w s).1.Wf := by
  have hsub : subOf s < 4294967296 := by unfold subOf; omega
  unfold putW
  simp only
  split
  · exact ⟨by show 0 < 4294967296; omega, by show 0 < 4294967296; omega, by intro x hx; simp [win0, ring0, zeroC] at hx; omega⟩
  · exact ⟨Nat.lt_of_le_of_lt (least_le w s) h.min, putR_wf h.ring hsub⟩
theorem follow_lt {p : Pr} {f t : Nat} {a b c : H32} (h1 : p.now.length < 4294967296) (h2 : p.next.length < 4294967296) : (Go.Alm.follow p f t a b c).1.now.length < 4294967296 ∧ (Go.Alm.follow p f t a b c).1.next.length < 4294967296 := by
  unfold Go.Alm.follow
  by_cases q1 : t ≤ f
  · rw [if_pos q1]; exact ⟨by decide, by decide⟩
  rw [if_neg q1]
  by_cases q2 : epochOf f < epochOf t
  · simp [q2]
    split <;> exact ⟨h2, by show 1 < 4294967296; omega⟩
  · by_cases q3 : 4294967296 ≤ p.next.length + 1
    · simp [q2, q3, pair0, data0]
    · simp [q2, q3]
      split <;> exact ⟨h1, by show p.next.length + 1 < 4294967296; omega⟩
theorem state0_wf : state0.Wf := ⟨by decide, by decide, by decide, ⟨by decide, by decide, by intro x hx; simp [state0, win0, ring0, zeroC] at hx; omega⟩, by decide, by decide⟩
theorem child_wf {s : St} {b : Bk} (h : s.Wf) (hb : b.slot < 4294967296) : (child s b).1.Wf := by
  unfold child
  by_cases q1 : b.slot ≤ s.slot
  · rw [if_pos q1]; exact state0_wf
  rw [if_neg q1]
  simp only
  generalize (if epochOf s.slot < epochOf b.slot then 1 else 0) = tn
  by_cases q2 : 4294967296 ≤ s.length + 1
  · simp only [q2, if_true]; exact state0_wf
  by_cases q3 : 4294967296 ≤ s.count + tn
  · simp only [q2, q3, if_true, if_false]; exact state0_wf
  simp only [q2, q3, if_false]
  have := follow_lt (f := s.slot) (t := b.slot) (a := hashOf s) (b := s.ledger) (c := b.draw) h.now h.next
  have hg : St.Wf ⟨hashOf s, b.ledger, b.draw, b.slot, s.length + 1, s.count + tn, (putW s.win b.slot).1, (Go.Alm.follow s.epochs s.slot b.slot (hashOf s) s.ledger b.draw).1⟩ :=
    ⟨hb, by show s.length + 1 < 4294967296; omega, by show s.count + tn < 4294967296; omega, putW_wf h.win hb, this.1, this.2⟩
  by_cases q4 : (putW s.win b.slot).2 = 0
  · by_cases q5 : (Go.Alm.follow s.epochs s.slot b.slot (hashOf s) s.ledger b.draw).2 = 0
    · simp only [q4, q5, ne_eq, not_true, if_false]; exact hg
    · simp only [q4, q5, ne_eq, not_true, not_false_eq_true, if_false, if_true]; exact state0_wf
  · simp only [q4, ne_eq, not_false_eq_true, if_true]; exact state0_wf
theorem genesis_wf (h : H32) : (genesis h).Wf := ⟨by show 0 < 4294967296; omega, by show 1 < 4294967296; omega, by show 0 < 4294967296; omega, ⟨by show 12 < 4294967296; omega, by show 0 < 4294967296; omega, by intro x hx; simp [genesis, winGenesis, ringGenesis] at hx; omega⟩, by show 1 < 4294967296; omega, by show 1 < 4294967296; omega⟩
end Go.Alm

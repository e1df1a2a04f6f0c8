/- WHAT A HASHER STANDS FOR: the bytes that it has taken in. -/
import Derived.Test.YtpoaakdljpdkfaaDoorC8
set_option linter.unusedSimpArgs false
set_option linter.unusedVariables false
namespace Go.Alm

theorem mixes_append : ∀ (n : Nat) (s b c : List Nat), 64 * n ≤ b.length → mixes n s (b ++ c) = mixes n s b
  | 0, _, _, _, _ => rfl
  | n + 1, s, b, c, h => by
    have h1 : 64 ≤ b.length := by omega
    simp only [mixes]
    rw [List.take_append_of_le_length h1, List.drop_append_of_le_length h1, mixes_append n _ _ _ (by simp; omega)]
theorem mixes_succ : ∀ (n : Nat) (s b : List Nat), mixes (n + 1) s b = mix (mixes n s b) ((b.drop (64 * n)).take 64)
  | 0, s, b => by simp [mixes]
  | n + 1, s, b => by
    rw [mixes, mixes_succ n, mixes, List.drop_drop, show 64 + 64 * n = 64 * (n + 1) by omega]
theorem lt_mix (s b : List Nat) : ∀ v ∈ mix s b, v < 4294967296 := by
  intro v hv
  unfold mix at hv
  rw [List.mem_iff_getElem] at hv
  obtain ⟨i, hi, rfl⟩ := hv
  rw [List.getElem_zipWith]
  exact Nat.mod_lt _ (by decide)
theorem lt_mixes : ∀ (n : Nat) (s b : List Nat), (∀ v ∈ s, v < 4294967296) → ∀ v ∈ mixes n s b, v < 4294967296
  | 0, _, _, h => h
  | n + 1, s, b, h => lt_mixes n _ _ (lt_mix s _)

/-- the hasher x has taken in the bytes m -/
structure Rep (m : List Nat) (x : Hs) : Prop where
  n : x.n = m.length
  s : x.s = mixes (m.length / 64) iv m
  bl : x.b.length = 64
  bb : ∀ v ∈ x.b, v < 256
  b : x.b.take (m.length % 64) = m.drop (64 * (m.length / 64))
  nb : m.length < 1152921504606846976
theorem Rep.ok {m : List Nat} {x : Hs} (h : Rep m x) : x.Ok :=
  ⟨by rw [h.s]; exact length_mixes _ _ _ rfl, h.bl, by rw [h.s]; exact lt_mixes _ _ _ (by decide), h.bb, by rw [h.n]; have := h.nb; omega⟩

/-- the buffer with a piece laid in -/
def lay (b piece : List Nat) (i : Nat) : List Nat := b.take i ++ piece ++ b.drop (i + piece.length)
theorem len_lay (b piece : List Nat) (i : Nat) (h : i + piece.length ≤ b.length) : (lay b piece i).length = b.length := by simp [lay]; omega
theorem mem_lay {b piece : List Nat} {i : Nat} {B : Nat} (hb : ∀ v ∈ b, v < B) (hp : ∀ v ∈ piece, v < B) : ∀ v ∈ lay b piece i, v < B := by
  intro v hv
  simp only [lay, List.mem_append] at hv
  rcases hv with (hv | hv) | hv
  · exact hb _ (List.mem_of_mem_take hv)
  · exact hp _ hv
  · exact hb _ (List.mem_of_mem_drop hv)

theorem Rep.part {m piece : List Nat} {x : Hs} (h : Rep m x) (hp : ∀ v ∈ piece, v < 256) (hl : m.length % 64 + piece.length < 64) (hn : m.length + piece.length < 1152921504606846976) :
    Rep (m ++ piece) ⟨x.s, lay x.b piece (m.length % 64), x.n + piece.length⟩ := by
  have h0 := h.bl
  have e1 : (m ++ piece).length / 64 = m.length / 64 := by simp; omega
  have e2 : (m ++ piece).length % 64 = m.length % 64 + piece.length := by simp; omega
  refine ⟨by simp [h.n], ?_, ?_, mem_lay h.bb hp, ?_, by simpa using hn⟩
  · show x.s = _
    rw [e1, mixes_append _ _ _ _ (by omega)]; exact h.s
  · show (lay _ _ _).length = 64
    rw [len_lay _ _ _ (by omega)]; exact h0
  · show (lay _ _ _).take _ = _
    rw [e1, e2, List.drop_append_of_le_length (by omega), ← h.b]
    unfold lay
    rw [List.take_append_of_le_length (by simp; omega), List.take_of_length_le (by simp; omega)]
theorem Rep.full {m piece : List Nat} {x : Hs} (h : Rep m x) (hp : ∀ v ∈ piece, v < 256) (hl : m.length % 64 + piece.length = 64) (hn : m.length + piece.length < 1152921504606846976) :
    Rep (m ++ piece) ⟨mix x.s (lay x.b piece (m.length % 64)), lay x.b piece (m.length % 64), x.n + piece.length⟩ := by
  have h0 := h.bl
  have e1 : (m ++ piece).length / 64 = m.length / 64 + 1 := by simp; omega
  have e2 : (m ++ piece).length % 64 = 0 := by simp; omega
  have e3 : lay x.b piece (m.length % 64) = m.drop (64 * (m.length / 64)) ++ piece := by
    unfold lay
    rw [hl, List.drop_of_length_le (by omega), List.append_nil, h.b]
  refine ⟨by simp [h.n], ?_, ?_, mem_lay h.bb hp, ?_, by simpa using hn⟩
  · show mix x.s _ = _
    rw [e1, mixes_succ, mixes_append _ _ _ _ (by omega), ← h.s, List.drop_append_of_le_length (by omega), e3, List.take_of_length_le (by simp; omega)]
  · show (lay _ _ _).length = 64
    rw [len_lay _ _ _ (by omega)]; exact h0
  · show (lay _ _ _).take _ = _
    rw [e2, e1]
    simp
    omega
end Go.Alm

/- ONE CELL OF A STATE CHANGED IS ANOTHER STATE. -/
import Derived.Test.YtpoaakdljpdkfaaDoorDec
set_option linter.unusedSimpArgs false
set_option linter.unusedVariables false
namespace Go.Alm
open Go.RowKit
theorem IntCells.app : ∀ {a b : List IntKind} {x y : List Value}, IntCells a x → IntCells b y → IntCells (a ++ b) (x ++ y)
  | [], _, [], _, _, h => h
  | _ :: _, _, _ :: _, _, h, h' => ⟨h.1, IntCells.app h.2 h'⟩
  | [], _, _ :: _, _, h, _ => h.elim
  | _ :: _, _, [], _, h, _ => h.elim
theorem IntCells.get : ∀ {ks : List IntKind} {l : List Value}, IntCells ks l → ∀ (i : Nat) (v : Value), l[i]? = some v → ∃ k : IntKind, ks[i]? = some k ∧ ∃ n : Int, v = .int k n ∧ k.has n
  | [], [], _, i, v, h => by simp at h
  | k :: ks, w :: l, hc, 0, v, h => by
    obtain ⟨n, hw⟩ := hc.1
    simp only [List.getElem?_cons_zero, Option.some.injEq] at h
    subst h
    exact ⟨k, rfl, n, hw⟩
  | k :: ks, w :: l, hc, i + 1, v, h => by
    simpa using IntCells.get hc.2 i v (by simpa using h)
  | [], _ :: _, hc, _, _, _ => hc.elim
  | _ :: _, [], hc, _, _, _ => hc.elim
theorem IntCells.len : ∀ {ks : List IntKind} {l : List Value}, IntCells ks l → l.length = ks.length
  | [], [], _ => rfl
  | _ :: _, _ :: _, hc => by simp [IntCells.len hc.2]
  | [], _ :: _, hc => hc.elim
  | _ :: _, [], hc => hc.elim
theorem IntCells.set : ∀ {ks : List IntKind} {l : List Value}, IntCells ks l → ∀ (i : Nat) (k : IntKind) (n : Int), ks[i]? = some k → k.has n → IntCells ks (l.set i (.int k n))
  | [], [], hc, i, k, n, _, _ => by simpa using hc
  | k' :: ks, w :: l, hc, 0, k, n, h, hn => by
    simp only [List.getElem?_cons_zero, Option.some.injEq] at h
    subst h
    exact ⟨⟨n, rfl, hn⟩, hc.2⟩
  | k' :: ks, w :: l, hc, i + 1, k, n, h, hn => ⟨hc.1, IntCells.set hc.2 i k n (by simpa using h) hn⟩
  | [], _ :: _, hc, _, _, _, _, _ => hc.elim
  | _ :: _, [], hc, _, _, _, _, _ => hc.elim
theorem enc_u8 : ∀ (n : Nat) (ns : List Nat), ns.length = n → (∀ x ∈ ns, x < 256) → IntCells (k8 n) (ns.map u8)
  | 0, [], _, _ => trivial
  | n + 1, x :: ns, h, hx => ⟨⟨x, rfl, show (0 : Int) ≤ x ∧ (x : Int) ≤ 255 by have := hx x (by simp); omega⟩, enc_u8 n ns (by simpa using h) (fun y hy => hx y (by simp [hy]))⟩
  | 0, _ :: _, h, _ => by simp at h
  | n + 1, [], h, _ => by simp at h
theorem enc_u32 : ∀ (n : Nat) (ns : List Nat), ns.length = n → (∀ x ∈ ns, x < 4294967296) → IntCells (k32 n) (ns.map u32)
  | 0, [], _, _ => trivial
  | n + 1, x :: ns, h, hx => ⟨⟨x, rfl, show (0 : Int) ≤ x ∧ (x : Int) ≤ 4294967295 by have := hx x (by simp); omega⟩, enc_u32 n ns (by simpa using h) (fun y hy => hx y (by simp [hy]))⟩
  | 0, _ :: _, h, _ => by simp at h
  | n + 1, [], h, _ => by simp at h
theorem enc_N (n : Nat) (h : n < 4294967296) : IntCells (k32 1) [Value.int .u32 (n : Int)] := enc_u32 1 [n] rfl (by simpa using h)
theorem enc_H (h : H32) : IntCells (k8 32) (encHL h) := enc_u8 32 h.l h.len h.lt
theorem enc_Rg (x : Rg) (h : x.Wf) : IntCells rgK (encRgL x) := (enc_N _ h.last).app (enc_u32 4 _ x.counts.len h.counts)
theorem enc_Wn (x : Wn) (h : x.Wf) : IntCells wnK (encWnL x) := (enc_N _ h.min).app (enc_Rg _ h.ring)
theorem enc_Dt (x : Dt) (h : x.length < 4294967296) : IntCells dtK (encDtL x) := (enc_H _).app ((enc_H _).app ((enc_H _).app ((enc_H _).app (enc_N _ h))))
theorem enc_Pr (x : Pr) (h : x.now.length < 4294967296) (h' : x.next.length < 4294967296) : IntCells prK (encPrL x) := (enc_Dt _ h).app (enc_Dt _ h')
theorem enc_St (x : St) (h : x.Wf) : IntCells stK (encStL x) :=
  (enc_H _).app ((enc_H _).app ((enc_H _).app ((enc_N _ h.slot).app ((enc_N _ h.length).app ((enc_N _ h.count).app ((enc_Wn _ h.win).app (enc_Pr _ h.now h.next)))))))
theorem encHL_inj {a b : H32} (h : encHL a = encHL b) : a = b := by
  apply H32.ext
  have hm : ∀ (x y : List Nat), x.map u8 = y.map u8 → x = y := by
    intro x
    induction x with
    | nil => intro y h; cases y <;> simp at h; rfl
    | cons a x ih =>
      intro y h
      cases y with
      | nil => simp at h
      | cons b y =>
        simp only [List.map_cons, List.cons.injEq, u8, Value.int.injEq, true_and] at h
        rw [ih y h.2, show a = b by omega]
  exact hm _ _ h
theorem get_st_slot (x : St) : (encStL x)[96]? = some (.int .u32 (x.slot : Int)) := by have := st_slot x; simpa [encSt] using this
theorem part_st (x : St) : ((encStL x).drop 32).take 32 = encHL x.ledger ∧ ((encStL x).drop 64).take 32 = encHL x.draw := by
  have e0 := len_encHL x.prev; have e1 := len_encHL x.ledger; have e2 := len_encHL x.draw
  unfold encStL
  refine ⟨?_, ?_⟩
  · rw [List.drop_left' e0, List.take_left' e1]
  · rw [← List.append_assoc, List.drop_left' (by rw [List.length_append, e0, e1]), List.take_left' e2]
theorem drop_take_set (l : List Value) (i : Nat) (v : Value) (a n : Nat) (h : i < a ∨ a + n ≤ i) : ((l.set i v).drop a).take n = (l.drop a).take n := by
  apply List.ext_getElem?
  intro j
  simp only [List.getElem?_take, List.getElem?_drop]
  split
  · rw [List.getElem?_set_ne (by omega)]
  · rfl
/-- a cell that isn't of the slot, the ledger or the draw -/
theorem tweak (c : St) (hc : c.Wf) (o : Nat) (k : IntKind) (n n' : Int) (hcell : (encSt c)[o]? = some (.int k n)) (hn : k.has n') (hne : n' ≠ n) (ho : o < 32 ∨ 96 < o) :
    ∃ d : St, d.Wf ∧ (encSt c).setIfInBounds o (.int k n') = encSt d ∧ d ≠ c ∧ d.slot = c.slot ∧ d.ledger = c.ledger ∧ d.draw = c.draw := by
  have hI := enc_St c hc
  have hcell' : (encStL c)[o]? = some (.int k n) := by simpa [encSt] using hcell
  obtain ⟨k', hk, m, hm, _⟩ := hI.get o _ hcell'
  have hkk : k = k' := by injection hm
  subst hkk
  obtain ⟨d, hd, he⟩ := dec_St (hI.set o k n' hk hn)
  refine ⟨d, hd, ?_, ?_, ?_, ?_, ?_⟩
  · apply Array.toList_inj.1
    simp only [encSt, Array.toList_setIfInBounds, he]
  · rintro rfl
    have h1 := congrArg (·[o]?) he
    have hlt := (List.getElem?_eq_some_iff.1 hcell').1
    simp only [List.getElem?_set_self hlt] at h1
    rw [hcell'] at h1
    injection h1 with h1
    injection h1 with _ h1
    exact hne h1
  · have h1 := get_st_slot d
    rw [← he, List.getElem?_set_ne (by omega), get_st_slot c] at h1
    injection h1 with h1
    injection h1 with _ h1
    omega
  · apply encHL_inj
    rw [← (part_st d).1, ← (part_st c).1, ← he, drop_take_set _ _ _ _ _ (by omega)]
  · apply encHL_inj
    rw [← (part_st d).2, ← (part_st c).2, ← he, drop_take_set _ _ _ _ _ (by omega)]
theorem st_cell (c : St) (hc : c.Wf) (o : Nat) (k : IntKind) (hk : stK[o]? = some k) : ∃ x : Int, (encSt c)[o]? = some (.int k x) ∧ k.has x := by
  have hI := enc_St c hc
  have hlt : o < (encStL c).length := by rw [hI.len]; exact (List.getElem?_eq_some_iff.1 hk).1
  obtain ⟨k', hk', m, hm, hh⟩ := hI.get o _ (List.getElem?_eq_getElem hlt)
  rw [hk] at hk'
  injection hk' with e
  subst e
  exact ⟨m, by simp only [encSt, List.getElem?_toArray]; rw [List.getElem?_eq_getElem hlt, hm], hh⟩
end Go.Alm

/- THE SAME LAW IN SEGMENTS: behind each segment the class of worlds may be another one. -/
import Derived.Test.YtpoaakdljpdkfaaDoorMixIn
set_option linter.unusedSimpArgs false
set_option linter.unusedVariables false
namespace Go
open Go.RowKit
section
variable {ops : Array Oper} {md : Region.Mode} {C : World → Prop} {Y : Oper → Value → Act → Prop} {ex : Nat → (Act → World → Prop) → Act → World → Prop} {m : Nat}
structure Shut (md : Region.Mode) (ops : Array Oper) (listed : Array Bool) : Prop where
  size : listed.size = ops.size
  closed : ∀ j oj, ops[j]? = some oj → listed.getD j false = true → ∀ e ∈ oj.after, Region.binds md e = true → listed.getD e.on false = true
theorem Shut.none (md : Region.Mode) (ops : Array Oper) : Shut md ops (Array.replicate ops.size false) := ⟨by simp, fun j oj _ hl => (by rw [getD_replicate_false] at hl; cases hl)⟩
theorem Shut.set {i : Nat} {listed : Array Bool} (inv : Shut md ops listed) (hi : i ∈ Region.ready md ops listed) : Shut md ops (listed.setIfInBounds i true) := by
  obtain ⟨_, oi, hoi, hall⟩ := mem_ready.1 hi
  refine ⟨by simp [inv.size], fun j oj hj hl e he hb => ?_⟩
  by_cases hij : i = j
  · subst hij
    rw [hoi] at hj
    cases hj
    exact getD_set_true (hall e he hb)
  · rw [getD_set_ne false hij] at hl
    exact getD_set_true (inv.closed j oj hj hl e he hb)
/-- whatever stands at m or behind waits for all that stands ahead of m -/
def Region.barB (md : Region.Mode) (ops : Array Oper) (m : Nat) : Bool :=
  Region.sinkB md ops (m - 1) && (List.range ops.size).all fun j => decide (j < m) || (List.range j).any fun i => decide (m - 1 ≤ i) && Region.waitsFor md ops j i
theorem bar_waits {listed : Array Bool} (h : Region.barB md ops m = true) (inv : Shut md ops listed) {j : Nat} (hj : m ≤ j) (hr : j ∈ Region.ready md ops listed) : ∀ i, i < m → listed.getD i false = true := by
  simp only [Region.barB, Bool.and_eq_true, List.all_eq_true, List.mem_range, Bool.or_eq_true, decide_eq_true_eq, List.any_eq_true] at h
  obtain ⟨hs, hb⟩ := h
  have hm : 0 < m → listed.getD (m - 1) false = true := by
    intro hm0
    have key : ∀ d j, j = d → m ≤ j → (∃ oj, ops[j]? = some oj ∧ ∀ e ∈ oj.after, Region.binds md e = true → listed.getD e.on false = true) → listed.getD (m - 1) false = true := by
      intro d
      induction d using Nat.strongRecOn with
      | _ d ih =>
        intro j hd hj hall
        obtain ⟨oj, hoj, hall⟩ := hall
        rcases hb j (Array.getElem?_eq_some_iff.1 hoj).1 with h1 | ⟨i, hi, hmi, hw⟩
        · omega
        · obtain ⟨oj', hoj', e, he, hbd, heo⟩ := Region.waitsFor_spec hw
          rw [hoj] at hoj'
          cases hoj'
          have hl := hall e he hbd
          rw [heo] at hl
          by_cases hi2 : i = m - 1
          · rw [← hi2]; exact hl
          · have hlt : i < ops.size := by
              rcases Nat.lt_or_ge i ops.size with h3 | h3
              · exact h3
              · rw [Array.getD_eq_getD_getElem?, Array.getElem?_eq_none (by rw [inv.size]; exact h3)] at hl
                simp at hl
            exact ih i (by omega) i rfl (by omega) ⟨ops[i], Array.getElem?_eq_getElem hlt, fun e he hb => inv.closed i _ (Array.getElem?_eq_getElem hlt) hl e he hb⟩
    obtain ⟨_, oj, hoj, hall⟩ := mem_ready.1 hr
    exact key j j rfl hj ⟨oj, hoj, hall⟩
  simp only [Region.sinkB, List.all_eq_true, List.mem_range, List.any_eq_true, Bool.and_eq_true, decide_eq_true_eq] at hs
  have down : ∀ d i, m - 1 - i = d → i < m → listed.getD i false = true := by
    intro d
    induction d using Nat.strongRecOn with
    | _ d ih =>
      intro i hd hi
      by_cases h1 : i = m - 1
      · rw [h1]; exact hm (by omega)
      · obtain ⟨k, hk, hik, hw⟩ := hs i (by omega)
        obtain ⟨ok, hok, e, he, hbd, heo⟩ := Region.waitsFor_spec hw
        have := inv.closed k ok hok (ih (m - 1 - k) (by omega) k rfl (by omega)) e he hbd
        rwa [heo] at this
  exact fun i hi => down _ i rfl hi

/-- the last one of a segment may be whatever ends the class -/
def wpMixE (C : World → Prop) (Yv : Oper → Value → Act → Prop) (exo : Oper → (Act → World → Prop) → Act → World → Prop) (L : Act → World → Prop) : List (Bool × Oper) → Act → World → Prop
  | [], a, W => ∀ W', Below W.heap.size W W' → L a W'
  | (true, o) :: rest, a, W => ∃ v, Yv o v a ∧ wpMixE C Yv exo L rest (a.put o.dst v) W
  | (false, o) :: rest, a, W => ∀ W', Below W.heap.size W W' → exo o (fun a'' W'' => (rest = [] ∨ C W'') ∧ wpMixE C Yv exo L rest a'' W'') a W'
theorem last_waits {listed : Array Bool} (h : Region.barB md ops m = true) (inv : Shut md ops listed) {j : Nat} (hj : j + 1 = m) (hr : j ∈ Region.ready md ops listed) : ∀ i, i < j → listed.getD i false = true := by
  simp only [Region.barB, Bool.and_eq_true] at h
  have hs := h.1
  simp only [Region.sinkB, List.all_eq_true, List.mem_range, List.any_eq_true, Bool.and_eq_true, decide_eq_true_eq] at hs
  obtain ⟨_, oj, hoj, hall⟩ := mem_ready.1 hr
  have down : ∀ d i, j - i = d → i < j → listed.getD i false = true := by
    intro d
    induction d using Nat.strongRecOn with
    | _ d ih =>
      intro i hd hi
      obtain ⟨k, hk, hik, hw⟩ := hs i (by omega)
      obtain ⟨ok, hok, e, he, hbd, heo⟩ := Region.waitsFor_spec hw
      by_cases hkj : k = j
      · subst hkj
        rw [hoj] at hok
        cases hok
        have := hall e he hbd
        rwa [heo] at this
      · have := inv.closed k ok hok (ih (j - k) (by omega) k rfl (by omega)) e he hbd
        rwa [heo] at this
  exact fun i hi => down _ i rfl hi
def wpAnyB (md : Region.Mode) (ops : Array Oper) (C : World → Prop) (ex : Nat → (Act → World → Prop) → Act → World → Prop) (m : Nat) (L : Array Bool → Act → World → Prop) : Nat → Array Bool → Act → World → Prop
  | 0, listed, a, W => ∀ W', Below W.heap.size W W' → L listed a W'
  | f + 1, listed, a, W =>
    Region.ready md ops listed ≠ [] ∧ ∀ i ∈ Region.ready md ops listed, i < m ∧ ∀ W', Below W.heap.size W W' →
      ex i (fun a' W'' => (i + 1 = m ∨ C W'') ∧ wpAnyB md ops C ex m L f (listed.setIfInBounds i true) a' W'') a W'
theorem wpAnyB_grow {L : Array Bool → Act → World → Prop} : ∀ {f : Nat} {listed : Array Bool} {a : Act} {W W1 : World}, Below W.heap.size W W1 → wpAnyB md ops C ex m L f listed a W → wpAnyB md ops C ex m L f listed a W1
  | 0, _, _, _, _, hb, h => fun W' hb' => h W' (hb.trans (hb'.mono hb.size))
  | f + 1, _, _, _, _, hb, h => ⟨h.1, fun i hi => ⟨(h.2 i hi).1, fun W' hb' => (h.2 i hi).2 W' (hb.trans (hb'.mono hb.size))⟩⟩
theorem wpAnyB_first (M : Mixes ops C Y ex) (hC : ∀ W W', C W → Below W.heap.size W W' → C W') {i : Nat} {oi : Oper} {v : Value} {L : Array Bool → Act → World → Prop} (hi : ops[i]? = some oi)
    (hsel : ∀ (j : Nat) (o : Oper) cs b, ops[j]? = some o → o.op ≠ .select cs b) (hbar : Region.barB md ops m = true) (hin : i < m)
    (hdone : ∀ listed a W, L listed a W → ∀ j ∈ Region.ready md ops listed, m ≤ j) :
    ∀ (f : Nat) (listed : Array Bool) (a : Act) (W : World), Shut md ops listed → C W →
      (∀ j oj, ops[j]? = some oj → j ≠ i → listed.getD j true = false → (∀ e ∈ oj.after, Region.binds md e = true → e.on ≠ i) → oi.apart ops oj = true) →
      i ∈ Region.ready md ops listed → Y oi v a →
      wpAnyB md ops C ex m L f (listed.setIfInBounds i true) (a.put oi.dst v) W → wpAnyB md ops C ex m L (f + 1) listed a W := by
  have below : ∀ (listed : Array Bool), Shut md ops listed → i ∈ Region.ready md ops listed → ∀ j ∈ Region.ready md ops listed, j < m := fun listed inv hr j hj => by
    rcases Nat.lt_or_ge j m with h | h
    · exact h
    · have h1 := bar_waits hbar inv h hj i hin
      rw [getD_both (mem_ready.1 hr).1] at h1
      cases h1
  intro f
  induction f with
  | zero =>
    intro listed a W inv hW _ hr hy H
    refine ⟨fun h => (by rw [h] at hr; cases hr), fun j hj => ⟨below listed inv hr j hj, fun W' hb => ?_⟩⟩
    by_cases hji : j = i
    · subst hji
      refine M.quiet hi hy (hC _ _ hW hb) fun W'' hb2 => ⟨.inr (hC _ _ (hC _ _ hW hb) hb2), ?_⟩
      exact wpAnyB_grow (f := 0) (hb.trans (hb2.mono hb.size)) H
    · have := hdone _ _ _ (H W (Below.refl _ _)) j (ready_mono hj hji)
      have := below listed inv hr j hj
      omega
  | succ f ih =>
    intro listed a W inv hW hfree hr hy H
    have hun := (mem_ready.1 hr).1
    refine ⟨fun h => (by rw [h] at hr; cases hr), fun j hj => ⟨below listed inv hr j hj, fun W' hb => ?_⟩⟩
    by_cases hji : j = i
    · subst hji
      refine M.quiet hi hy (hC _ _ hW hb) fun W'' hb2 => ⟨.inr (hC _ _ (hC _ _ hW hb) hb2), ?_⟩
      exact wpAnyB_grow (hb.trans (hb2.mono hb.size)) H
    · have h1 := (H.2 j (ready_mono hj hji)).2 W' hb
      obtain ⟨hjun, oj, hoj, hall⟩ := mem_ready.1 hj
      have hnot : ∀ e ∈ oj.after, Region.binds md e = true → e.on ≠ i := fun e he hb heq => by
        have h1 := hall e he hb
        rw [heq, getD_both hun] at h1
        cases h1
      have h2 := M.put hoj (hfree j oj hoj hji hjun hnot) (fun cs b => hsel i oi cs b hi) (fun cs b => hsel j oj cs b hoj) hy h1
      have hfree' : ∀ k ok, ops[k]? = some ok → k ≠ i → (listed.setIfInBounds j true).getD k true = false →
          (∀ e ∈ ok.after, Region.binds md e = true → e.on ≠ i) → oi.apart ops ok = true := fun k ok hk hki hun hno => by
        refine hfree k ok hk hki ?_ hno
        by_cases hjk : j = k
        · subst hjk; exact hjun
        · rw [getD_set_ne true hjk] at hun; exact hun
      refine M.mono (fun a' W'' h3 => ?_) h2
      have hCW : C W'' := by
        rcases h3.2.1 with h4 | h4
        · have h5 := last_waits hbar inv h4 hj i (by
            have : i ≠ j := Ne.symm hji
            omega)
          rw [getD_both hun] at h5
          cases h5
        · exact h4
      refine ⟨.inr hCW, ih (listed.setIfInBounds j true) a' W'' (inv.set hj) hCW hfree' (ready_mono hr (Ne.symm hji)) h3.1 ?_⟩
      rw [Array.setIfInBounds_comm _ _ hji]
      exact h3.2.2
/-- a segment's form; behind it: what is left stands at m or behind -/
def Region.segGo (md : Region.Mode) (ops : Array Oper) (m : Nat) (after : Array Bool → Bool) : List Bool → Nat → Array Bool → Bool
  | [], k, listed => decide (k = m) && (Region.ready md ops listed).all (fun j => decide (m ≤ j)) && after listed
  | true :: fl, k, listed => decide (k < m) && (Region.ready md ops listed).contains k && Region.free md ops listed k && Region.segGo md ops m after fl (k + 1) (listed.setIfInBounds k true)
  | false :: fl, k, listed => decide (k < m) && decide (Region.ready md ops listed = [k]) && Region.segGo md ops m after fl (k + 1) (listed.setIfInBounds k true)
theorem wpAnyB_lex (M : Mixes ops C Y ex) (hC : ∀ W W', C W → Below W.heap.size W W' → C W') {exo : Oper → (Act → World → Prop) → Act → World → Prop} (hex : ∀ {i : Nat} {o : Oper} {K : Act → World → Prop} {a : Act} {W : World}, ops[i]? = some o → exo o K a W → ex i K a W)
    {L : Act → World → Prop} (hsel : Region.noSelect ops = true) (hbar : Region.barB md ops m = true) (aft : Array Bool → Bool) :
    ∀ (l : List (Bool × Oper)) (k : Nat) (listed : Array Bool) (a : Act) (W : World), (∀ j, j < l.length → (l[j]?).map (·.2) = ops[k + j]?) → Shut md ops listed → C W →
    Region.segGo md ops m aft (l.map (·.1)) k listed = true → wpMixE C Y exo L l a W →
    wpAnyB md ops C ex m (fun listed' a' W' => ((Region.ready md ops listed').all (fun j => decide (m ≤ j)) = true ∧ aft listed' = true ∧ Shut md ops listed') ∧ L a' W') l.length listed a W
  | [], k, listed, a, W, hl, inv, hW, hB, h => by
    simp only [List.map_nil, Region.segGo, Bool.and_eq_true] at hB
    exact fun W' hb => ⟨⟨hB.1.2, hB.2, inv⟩, h W' hb⟩
  | (true, o) :: l, k, listed, a, W, hl, inv, hW, hB, h => by
    have h0 : ops[k]? = some o := by simpa using (hl 0 (by simp)).symm
    simp only [List.map_cons, Region.segGo, Bool.and_eq_true, decide_eq_true_eq] at hB
    obtain ⟨⟨⟨hk, hr⟩, hf⟩, hB'⟩ := hB
    have hr' : k ∈ Region.ready md ops listed := by simpa using hr
    obtain ⟨v, hy, hK⟩ := h
    exact wpAnyB_first M hC h0 (Region.noSelect_spec hsel) hbar hk (fun listed' a' W' hL j hj => by have := List.all_eq_true.1 hL.1.1 j hj; simpa using this) l.length listed a W inv hW (Region.free_spec h0 hf) hr' hy
      (wpAnyB_lex M hC hex hsel hbar aft l (k + 1) _ _ W (fun j hj => by have := hl (j + 1) (by simp only [List.length_cons]; omega); simpa [Nat.add_assoc, Nat.add_comm 1 j] using this) (inv.set hr') hW hB' hK)
  | (false, o) :: l, k, listed, a, W, hl, inv, hW, hB, h => by
    have h0 : ops[k]? = some o := by simpa using (hl 0 (by simp)).symm
    simp only [List.map_cons, Region.segGo, Bool.and_eq_true, decide_eq_true_eq] at hB
    obtain ⟨⟨hk, hr⟩, hB'⟩ := hB
    refine ⟨fun h1 => (by rw [hr] at h1; cases h1), fun i hi => ?_⟩
    have hi' := hi
    rw [hr] at hi
    have hik : i = k := by simpa using hi
    subst hik
    refine ⟨hk, fun W' hb => M.mono (fun a' W'' h3 => ?_) (hex h0 (h W' hb))⟩
    have hk' : l = [] → i + 1 = m := fun e => by
      subst e
      simp only [List.map_nil, Region.segGo, Bool.and_eq_true, decide_eq_true_eq] at hB'
      exact hB'.1.1
    refine ⟨h3.1.imp hk' id, ?_⟩
    rcases h3.1 with h4 | h4
    · subst h4
      simp only [List.map_nil, Region.segGo, Bool.and_eq_true, decide_eq_true_eq] at hB'
      exact fun W3 hb3 => ⟨⟨hB'.1.2, hB'.2, inv.set hi'⟩, h3.2 W3 hb3⟩
    · exact wpAnyB_lex M hC hex hsel hbar aft l (i + 1) _ a' W'' (fun j hj => by have := hl (j + 1) (by simp only [List.length_cons]; omega); simpa [Nat.add_assoc, Nat.add_comm 1 j] using this) (inv.set hi') h4 hB' h3.2
end
/-- the segments, one behind the other -/
def wpSegX (Yof : (World → Prop) → Oper → Value → Act → Prop) (exo : Oper → (Act → World → Prop) → Act → World → Prop) (L : Act → World → Prop) : List (List (Bool × Oper)) → Act → World → Prop
  | [], a, W => ∀ W', Below W.heap.size W W' → L a W'
  | s :: ss, a, W => ∃ C : World → Prop, (∀ W W', C W → Below W.heap.size W W' → C W') ∧ C W ∧ wpMixE C (Yof C) exo (fun a' W' => wpSegX Yof exo L ss a' W') s a W
def Region.segsGo (md : Region.Mode) (ops : Array Oper) : List (List Bool) → Nat → Array Bool → Bool
  | [], _, listed => (Region.ready md ops listed).isEmpty
  | fl :: fls, k, listed => Region.barB md ops (k + fl.length) && Region.segGo md ops (k + fl.length) (fun listed' => Region.segsGo md ops fls (k + fl.length) listed') fl k listed
theorem segs_sound {ops : Array Oper} {md : Region.Mode} {Yof : (World → Prop) → Oper → Value → Act → Prop} {ex : Nat → (Act → World → Prop) → Act → World → Prop} {exo : Oper → (Act → World → Prop) → Act → World → Prop} {L : Act → World → Prop}
    (M : ∀ C, Mixes ops C (Yof C) ex) (hex : ∀ {i : Nat} {o : Oper} {K : Act → World → Prop} {a : Act} {W : World}, ops[i]? = some o → exo o K a W → ex i K a W) (hsel : Region.noSelect ops = true)
    {T : Nat → Array Bool → Act → World → Prop} (hT0 : ∀ {listed a W}, Region.ready md ops listed = [] → L a W → T 0 listed a W)
    (hTs : ∀ {f listed a W}, Region.ready md ops listed ≠ [] → (∀ i ∈ Region.ready md ops listed, ex i (fun a' W' => T f (listed.setIfInBounds i true) a' W') a W) → T (f + 1) listed a W) :
    ∀ (ss : List (List (Bool × Oper))) (k : Nat) (listed : Array Bool) (a : Act) (W : World), (∀ j, j < ss.flatten.length → (ss.flatten[j]?).map (·.2) = ops[k + j]?) → Shut md ops listed →
    Region.segsGo md ops (ss.map fun s => s.map (·.1)) k listed = true → wpSegX Yof exo L ss a W → T ss.flatten.length listed a W
  | [], k, listed, a, W, hl, inv, hB, h => hT0 (by simpa [Region.segsGo] using hB) (h W (Below.refl _ _))
  | s :: ss, k, listed, a, W, hl, inv, hB, h => by
    obtain ⟨C, hC, hW, h⟩ := h
    simp only [List.map_cons, Region.segsGo, List.length_map, Bool.and_eq_true] at hB
    obtain ⟨hbar, hgo⟩ := hB
    have H := wpAnyB_lex (M C) hC hex hsel hbar _ s k listed a W (fun j hj => by
      have := hl j (by simp only [List.flatten_cons, List.length_append]; omega)
      rw [List.flatten_cons, List.getElem?_append_left hj] at this
      exact this) inv hW hgo h
    have go : ∀ (f : Nat) (listed : Array Bool) (a : Act) (W : World), wpAnyB md ops C ex (k + s.length) (fun listed' a' W' => ((Region.ready md ops listed').all (fun j => decide (k + s.length ≤ j)) = true ∧ Region.segsGo md ops (ss.map fun s => s.map (·.1)) (k + s.length) listed' = true ∧ Shut md ops listed') ∧ wpSegX Yof exo L ss a' W') f listed a W → T (f + ss.flatten.length) listed a W := by
      intro f
      induction f with
      | zero =>
        intro listed a W h
        obtain ⟨⟨_, h2, h3⟩, h4⟩ := h W (Below.refl _ _)
        rw [Nat.zero_add]
        exact segs_sound M hex hsel hT0 hTs ss (k + s.length) listed a W (fun j hj => by
          have := hl (s.length + j) (by simp only [List.flatten_cons, List.length_append]; omega)
          rw [List.flatten_cons, List.getElem?_append_right (by omega), Nat.add_sub_cancel_left] at this
          rw [this, Nat.add_assoc]) h3 h2 h4
      | succ f ih =>
        intro listed a W h
        rw [show f + 1 + ss.flatten.length = (f + ss.flatten.length) + 1 by omega]
        exact hTs h.1 fun i hi => (M C).mono (fun a' W' h3 => ih _ _ _ h3.2) ((h.2 i hi).2 W (Below.refl _ _))
    have := go s.length listed a W H
    rwa [List.flatten_cons, List.length_append]
def Region.segsB (md : Region.Mode) (ops : Array Oper) (fls : List (List Bool)) : Bool := Region.noSelect ops && decide (fls.flatten.length = ops.size) && Region.segsGo md ops fls 0 (Array.replicate ops.size false)
/-- operations, parted as the flags are -/
def Region.parted : List (List Bool) → List Oper → List (List (Bool × Oper))
  | [], _ => []
  | fl :: fls, l => fl.zip l :: Region.parted fls (l.drop fl.length)
theorem Region.parted_flatten : ∀ (fls : List (List Bool)) (l : List Oper), fls.flatten.length = l.length → (Region.parted fls l).flatten = fls.flatten.zip l ∧ (Region.parted fls l).map (fun s => s.map (·.1)) = fls
  | [], l, h => by
    have : l = [] := List.length_eq_zero_iff.1 (by simpa using h.symm)
    subst this
    exact ⟨rfl, rfl⟩
  | fl :: fls, l, h => by
    simp only [List.flatten_cons, List.length_append] at h
    have hle : fl.length ≤ l.length := by omega
    obtain ⟨h1, h2⟩ := Region.parted_flatten fls (l.drop fl.length) (by rw [List.length_drop]; omega)
    refine ⟨?_, ?_⟩
    · rw [Region.parted, List.flatten_cons, h1, List.flatten_cons]
      conv => rhs; rw [← List.take_append_drop fl.length l]
      rw [List.zip_append (by rw [List.length_take]; omega)]
      congr 1
      conv => lhs; rw [← List.take_append_drop fl.length l]
      rw [show fl.zip (l.take fl.length ++ l.drop fl.length) = (fl ++ []).zip (l.take fl.length ++ l.drop fl.length) by rw [List.append_nil], List.zip_append (by rw [List.length_take]; omega)]
      simp
    · rw [Region.parted, List.map_cons, h2, List.map_fst_zip (by omega)]
section
variable {F : Fence} {n : Nat} {P : Program}
def wpMixEIn (F : Fence) (n : Nat) (P : Program) (ops : Array Oper) (C : World → Prop) (L : Act → World → Prop) : List (Bool × Oper) → Act → World → Prop := wpMixE C (YieldsF P ops C) (mOpOIn F n P ops) L
section
variable {ops : Array Oper} {C : World → Prop} {L : Act → World → Prop} {a : Act} {W : World} {o : Oper} {rest : List (Bool × Oper)}
theorem wpMixEIn_nil (h : ∀ W', Below W.heap.size W W' → L a W') : wpMixEIn F n P ops C L [] a W := h
theorem wpMixEIn_q (hg : o.guard = none) (hab : ∀ w, o.about P w a.eval = none) (h : ∀ K : Act → Prop, (∀ a, wpMixEIn F n P ops C L rest a W → K a) → ∃ v, (∀ W', C W' → o.holdAt P a W' v) ∧ K (a.put o.dst v)) : wpMixEIn F n P ops C L ((true, o) :: rest) a W := by
  obtain ⟨v, h1, h2⟩ := h _ (fun _ h => h)
  exact ⟨v, ⟨.inl ⟨by simp [Region.wanted, hg], h1⟩, hab⟩, h2⟩
theorem wpMixEIn_qy (hab : ∀ w, o.about P w a.eval = none) (hw : Region.wanted o (yielded ops a.tmps) = true) (h : ∀ K : Act → Prop, (∀ a, wpMixEIn F n P ops C L rest a W → K a) → ∃ v, (∀ W', C W' → o.holdAt P a W' v) ∧ K (a.put o.dst v)) : wpMixEIn F n P ops C L ((true, o) :: rest) a W := by
  obtain ⟨v, h1, h2⟩ := h _ (fun _ h => h)
  exact ⟨v, ⟨.inl ⟨hw, h1⟩, hab⟩, h2⟩
theorem wpMixEIn_qn (hab : ∀ w, o.about P w a.eval = none) (hw : Region.wanted o (yielded ops a.tmps) = false) (h : ∀ K : Act → Prop, (∀ a, wpMixEIn F n P ops C L rest a W → K a) → K (a.put o.dst undef)) : wpMixEIn F n P ops C L ((true, o) :: rest) a W :=
  ⟨undef, ⟨.inr ⟨hw, rfl⟩, hab⟩, h _ (fun _ h => h)⟩
theorem wpMixEIn_s (hg : o.guard = none) (h : ∀ W', Below W.heap.size W W' → ∀ K : Act → World → Prop, (∀ a w, (rest = [] ∨ C w) → wpMixEIn F n P ops C L rest a w → K a w) → o.calmIn F n P a W' K) : wpMixEIn F n P ops C L ((false, o) :: rest) a W := by
  intro W' hb
  have hw : Region.wanted o (yielded ops a.tmps) = true := by simp [Region.wanted, hg]
  have h2 := h W' hb (fun a'' W'' => (rest = [] ∨ C W'') ∧ wpMixEIn F n P ops C L rest a'' W'') fun _ _ h1 h2 => ⟨h1, h2⟩
  unfold mOpOIn
  rw [if_pos hw]
  exact h2
theorem wpMixEIn_sy (hw : Region.wanted o (yielded ops a.tmps) = true) (h : ∀ W', Below W.heap.size W W' → ∀ K : Act → World → Prop, (∀ a w, (rest = [] ∨ C w) → wpMixEIn F n P ops C L rest a w → K a w) → o.calmIn F n P a W' K) : wpMixEIn F n P ops C L ((false, o) :: rest) a W := by
  intro W' hb
  have h2 := h W' hb (fun a'' W'' => (rest = [] ∨ C W'') ∧ wpMixEIn F n P ops C L rest a'' W'') fun _ _ h1 h2 => ⟨h1, h2⟩
  unfold mOpOIn
  rw [if_pos hw]
  exact h2
theorem wpMixEIn_sn (hw : Region.wanted o (yielded ops a.tmps) = false) (hab : ∀ w, o.about P w a.eval = none) (h : ∀ W', Below W.heap.size W W' → ∀ K : Act → World → Prop, (∀ a w, (rest = [] ∨ C w) → wpMixEIn F n P ops C L rest a w → K a w) → K (a.put o.dst undef) W') : wpMixEIn F n P ops C L ((false, o) :: rest) a W := by
  intro W' hb
  have h2 := h W' hb (fun a'' W'' => (rest = [] ∨ C W'') ∧ wpMixEIn F n P ops C L rest a'' W'') fun _ _ h1 h2 => ⟨h1, h2⟩
  unfold mOpOIn
  rw [if_neg (by simp [hw])]
  exact ⟨(fun f hf => by rw [hab W'] at hf; cases hf), h2⟩
end
def wpSegIn (F : Fence) (n : Nat) (P : Program) (ops : Array Oper) (L : Act → World → Prop) : List (List (Bool × Oper)) → Act → World → Prop := wpSegX (YieldsF P ops) (mOpOIn F n P ops) L
theorem wpSegIn_nil {ops : Array Oper} {L : Act → World → Prop} {a : Act} {W : World} (h : ∀ W', Below W.heap.size W W' → L a W') : wpSegIn F n P ops L [] a W := h
theorem wpSegIn_cons {ops : Array Oper} {L : Act → World → Prop} {a : Act} {W : World} {s : List (Bool × Oper)} {ss : List (List (Bool × Oper))} (C : World → Prop) (hC : ∀ W W', C W → Below W.heap.size W W' → C W') (hW : C W)
    (h : ∀ K : Act → World → Prop, (∀ a W, wpSegIn F n P ops L ss a W → K a W) → wpMixEIn F n P ops C K s a W) : wpSegIn F n P ops L (s :: ss) a W :=
  ⟨C, hC, hW, h _ (fun _ _ h => h)⟩
theorem wpIn_region_seg {id : Nat} {Q : Exit → Act → World → Prop} {a : Act} {w : World} {l : List Oper} (hnd : Region.noDefer l = true) (fls : List (List Bool)) (hm : P.follows .mixedOrders = true)
    (hB : Region.segsB .any l.toArray fls = true) (h : ∀ W, Below w.heap.size w W → wpSegIn F n P l.toArray (fun a' W' => Q .normal a' W') (Region.parted fls l) a W) : (Code.region id l.toArray true).wpIn F n P Q a w := by
  simp only [Region.segsB, Bool.and_eq_true, decide_eq_true_eq] at hB
  obtain ⟨⟨hsel, hlen⟩, hgo⟩ := hB
  have hlen' : fls.flatten.length = l.length := by simpa using hlen
  obtain ⟨p1, p2⟩ := Region.parted_flatten fls l hlen'
  have hzl : (Region.parted fls l).flatten.length = l.toArray.size := by rw [p1]; simp [hlen']
  refine wpIn_region_any hm ?_
  have H := segs_sound (md := .any) (T := wpAnyIn F n P .any l.toArray Q) (L := fun a' W' => Q .normal a' W') (fun C => mixes_in F n P l.toArray C) (exo := mOpOIn F n P l.toArray) (fun {i o K a W} h0 h1 => by unfold mOpIn; simp only [h0]; exact h1) hsel
    (fun h0 h1 => ⟨h0, h1⟩)
    (fun {f listed a' W} h0 hall => ⟨fun h1 => absurd h1 h0, fun i hi => by
      have h1 := hall i hi
      unfold mOpIn at h1
      unfold wpOpIn
      cases ho : l.toArray[i]? with
      | none => simp only [ho] at h1 ⊢; exact h1
      | some o =>
        simp only [ho] at h1 ⊢
        unfold mOpOIn at h1
        split
        · rename_i hw
          rw [if_pos hw] at h1
          refine ⟨h1.1, ?_⟩
          have h1 := h1.2
          rw [Oper.semAt_eq _ _ _ (Region.noDefer_spec hnd ho)]
          generalize (execOp a'.eval o).run P W = r at h1 ⊢
          cases r with
          | halt x w' => simp only [Oper.calmUponIn] at h1
          | ok x w' =>
            cases x <;> simp only [Oper.calmUponIn] at h1 <;> simp only [Oper.uponIn]
            case value u => exact h1
            case skip => exact h1
            case enter f' args =>
              refine ⟨h1.1, h1.2.mono ?_⟩
              rintro e W'' ⟨v, rfl, h2⟩
              exact h2
            case round l' f' tmps assign body =>
              refine ⟨h1.1, h1.2.mono ?_⟩
              rintro e W'' ⟨v, rfl, h2⟩
              exact h2
        · rename_i hw
          rw [if_neg hw] at h1
          exact h1⟩)
    (Region.parted fls l) 0 (Array.replicate l.toArray.size false) a w.drew (fun j hj => by
      rw [p1] at hj ⊢
      rw [Nat.zero_add, ← List.getElem?_map, List.map_snd_zip (by omega), List.getElem?_toArray]) (Shut.none _ _) (by rw [p2]; exact hgo) (h _ ((Below.refl _ _).drew))
  rw [hzl] at H
  exact H
end
end Go

/- THE WALKS OF state: parts, Bytes, Hash. -/
import Derived.Test.YtpoaakdljpdkfaaDoorFld
set_option linter.unusedSimpArgs false
set_option linter.unusedVariables false
namespace Go.Proofs.YtpoaakdljpdkfaaDoor
open Go.RowKit Go.Alm Go.Shelf
attribute [local go_sem] Oper.semAt_some
theorem parts_in (n q : Nat) (w : World) :
    CallsIn Fence.wide n Tryd.prog 101 #[.pointer (some ⟨q, 0, none⟩)] w fun e w' => e = .returned (.func (.func 124) #[] #[.pointer (some ⟨w.heap.size, 0, none⟩)]) ∧ w' = w.alloc (.cells #[.pointer (some ⟨q, 0, none⟩)] 204) := by
  refine callsIn_of_wp Tryd.func101 rfl trivial ?_ rfl
  simp only [Tryd.ntmps101, List.size_toArray, List.length_cons, List.length_nil, Nat.reduceAdd, Nat.reduceSub, Array.replicate_succ, Array.replicate_zero, List.push_toArray, List.append_toArray, List.nil_append, List.cons_append]
  gi_wp2
  go_ret
  exact ⟨rfl, rfl⟩
abbrev SFld : Type := { x : Fld // x ∈ stFld }
theorem below_grown {W W' : World} (h : Below W.heap.size W W') : W.grownBy W' none := ⟨h.os, h.tape, h.output, h.size, fun k hk _ => h.block k hk⟩
theorem parts_stops (n Bs q : Nat) (w : World) (hBs : w.heap[Bs]? = some (Obj.cells #[.pointer (some ⟨q, 0, none⟩)] 204 (0, 0))) :
    SeqStopsK Fence.wide n Tryd.prog 124 #[.pointer (some ⟨Bs, 0, none⟩)] (fun x : SFld => fldEnc q x.1) KpT (fun xs => xs.map (·.1) = stFld) (fun _ => True) 22 w := fun l J Jx W hW hJ hJx hY h0 => by
  have hBW := (hW.block Bs (Array.getElem?_eq_some_iff.1 hBs).1).trans hBs
  refine (closure_in n l q Bs (fun pre W => ∃ p : List SFld, p.map (·.1) = pre ∧ J p W) (fun pre W => ∃ p : List SFld, Jx p W) ?_ ?_ ?_ W hBW ⟨[], rfl, h0⟩).mono ?_
  · rintro s W1 W2 ⟨p, hp, h⟩ hb
    exact ⟨p, hp, hJ p W1 W2 none h (below_grown hb) (fun r e => by cases e)⟩
  · rintro s W1 W2 ⟨p, h⟩ hb
    exact ⟨p, hJx p W1 W2 none h (below_grown hb) (fun r e => by cases e)⟩
  · rintro m pre x W1 hx ⟨p, rfl, h⟩ hlen
    obtain ⟨fn, tmps, assign, body, h1, h2⟩ := hY p ⟨x, hx⟩ W1 h (by simpa using hlen)
    refine ⟨fn, tmps, assign, body, h1, roundIn_any (h2.mono ?_)⟩
    rintro e W2 (⟨he, hj, hk⟩ | ⟨he, hj⟩)
    · exact .inl ⟨he, ⟨_, by simp, hj⟩, hk⟩
    · exact .inr ⟨he, _, hj⟩
  · rintro e W2 ⟨hv, ⟨p, hp, h⟩ | ⟨pre, p, h⟩⟩
    · exact ⟨hv, .inl ⟨p, hp, h⟩⟩
    · exact ⟨hv, .inr ⟨p, trivial, h⟩⟩
theorem Bs.mono {base base' : Nat} {W : World} {v : Value} {bs : List Nat} (h : Bs base W v bs) (hb : base' ≤ base) : Bs base' W v bs := by
  refine ⟨h.1, ?_⟩
  rcases h.2 with h1 | ⟨g, cap, cur, h1, h2, h3⟩
  · exact .inl h1
  · exact .inr ⟨g, cap, cur, h1, by omega, h3⟩
theorem Bs.grown_other {base : Nat} {W W' : World} {v : Value} {bs : List Nat} {row : Option Nat} (h : Bs base W v bs) (hg : W.grownBy W' row) (hr : ∀ r, row = some r → ∃ o : Obj, W.heap[r]? = some o ∧ o.isCells = false) : Bs base W' v bs := by
  refine ⟨h.1, ?_⟩
  rcases h.2 with h1 | ⟨g, cap, cur, h1, h2, h3, h4⟩
  · exact .inl h1
  · refine .inr ⟨g, cap, cur, h1, h2, (hg.block g (Array.getElem?_eq_some_iff.1 h3).1 (fun e => ?_)).trans h3, h4⟩
    obtain ⟨o, ho, hc⟩ := hr g e.symm
    rw [h3] at ho
    cases ho
    cases hc
theorem cells_grown {W W' : World} {row : Option Nat} {k : Nat} {c : Array Value} {t : TypeId} {f : Nat × Nat} (h : W.heap[k]? = some (.cells c t f)) (hg : W.grownBy W' row) (hr : ∀ r, row = some r → ∃ o : Obj, W.heap[r]? = some o ∧ o.isCells = false) : W'.heap[k]? = some (.cells c t f) := by
  refine (hg.block k (Array.getElem?_eq_some_iff.1 h).1 (fun e => ?_)).trans h
  obtain ⟨o, ho, hc⟩ := hr k e.symm
  rw [h] at ho
  cases ho
  cases hc
theorem Wr.grown_other {base wb : Nat} {W W' : World} {bs : List Nat} {row : Option Nat} (h : Wr base wb W bs) (hg : W.grownBy W' row) (hr : ∀ r, row = some r → ∃ o : Obj, W.heap[r]? = some o ∧ o.isCells = false) : Wr base wb W' bs := by
  obtain ⟨h0, v, h1, h2⟩ := h
  exact ⟨h0, v, cells_grown h1 hg hr, h2.grown_other hg hr⟩
/-- what Bytes knows when the parts pre are written -/
structure BytesI (x : St) (b0 : Nat) (w : World) (pre : List SFld) (W : World) : Prop where
  wr : Wr b0 (b0 + 1) W (pre.flatMap fun y => fldB x y.1)
  st : W.heap[b0]? = some (Obj.cells (encSt x) 35 (0, 0))
  tw : W.heap[b0 + 2]? = some (Obj.cells #[.pointer (some ⟨b0 + 1, 0, none⟩)] 169 (0, 0))
  below : Below b0 w W
theorem BytesI.own (x : St) (b0 B : Nat) (w : World) (hB : b0 ≤ B) : OwnFrom B (BytesI x b0 w) := fun s A A' row hs hg hr => by
  have hr' : ∀ r, row = some r → ∃ o : Obj, A.heap[r]? = some o ∧ o.isCells = false := fun r e => (hr r e).2
  exact ⟨hs.wr.grown_other hg hr', cells_grown hs.st hg hr', cells_grown hs.tw hg hr', hs.below.grown hg (by have := hs.wr.lt; omega) (fun k e => by have := (hr k e).1; omega)⟩
theorem WrK.keepsFrom {base wb B : Nat} {W W' : World} {bs : List Nat} (h : WrK base wb W W') (hw : Wr base wb W bs) : KeepsFrom B W W' :=
  ⟨h.size, fun k o _ hk hc => by
    obtain ⟨_, v, hv, _⟩ := hw
    refine (h.block k (Array.getElem?_eq_some_iff.1 hk).1 (fun e => ?_) (.inr fun c f e => ?_)).trans hk
    · subst e; rw [hv] at hk; cases hk; cases hc
    · rw [hk] at e; cases e; cases hc⟩
theorem WrK.kpT {base wb : Nat} {W W' : World} {bs : List Nat} (h : WrK base wb W W') (hw : Wr base wb W bs) : KpT W W' :=
  ⟨h.size, fun k c t f ht hk => by
    obtain ⟨_, v, hv, _⟩ := hw
    refine (h.block k (Array.getElem?_eq_some_iff.1 hk).1 (fun e => ?_) (.inr fun c f e => ?_)).trans hk
    · subst e; rw [hv] at hk; cases hk; simp [itType] at ht
    · rw [hk] at e; cases e; simp [itType] at ht⟩
theorem BytesI.next {x : St} {b0 : Nat} {w : World} {pre : List SFld} {y : SFld} {W W2 W3 : World} (h : BytesI x b0 w pre W) (hk : WrK b0 (b0 + 1) W W2) (hw : Wr b0 (b0 + 1) W2 (pre.flatMap (fun y => fldB x y.1) ++ fldB x y.1)) (hb : Below W2.heap.size W2 W3) (hle : b0 ≤ W.heap.size) :
    BytesI x b0 w (pre ++ [y]) W3 := by
  have keep : ∀ k c t, k ≠ b0 + 1 → t ≠ 5 → W.heap[k]? = some (Obj.cells c t (0, 0)) → W3.heap[k]? = some (Obj.cells c t (0, 0)) := fun k c t hk1 ht hc => by
    have h2 := (hk.block k (Array.getElem?_eq_some_iff.1 hc).1 hk1 (.inr fun c' f' e => by rw [hc] at e; cases e; exact ht rfl)).trans hc
    exact (hb.block k (Array.getElem?_eq_some_iff.1 h2).1).trans h2
  refine ⟨?_, keep _ _ _ (by omega) (by decide) h.st, keep _ _ _ (by omega) (by decide) h.tw, (h.below.trans (hk.toBelow (by omega) hle)).trans (hb.mono (Nat.le_trans hle hk.size))⟩
  have := hw.below hb
  simpa using this
set_option maxRecDepth 100000 in
set_option maxHeartbeats 2000000 in
theorem Bytes_any (x : St) (w : World) (hx : x.Wf) :
    Calls Tryd.prog 66 #[.agg (encSt x)] w fun e w' => ∃ v, e = .returned v ∧ Bs w.heap.size w' v (bytesOf x) ∧ Below w.heap.size w w' := by
  refine (callsIn_wide (n := 3)).1 ?_
  refine callsIn_of_wp_marks Tryd.func66 rfl trivial ?_ rfl
  simp only [Tryd.ntmps66, List.size_toArray, List.length_cons, List.length_nil, Nat.reduceAdd, Nat.reduceSub, Array.replicate_succ, Array.replicate_zero, List.push_toArray, List.append_toArray, List.nil_append, List.cons_append]
  gi_wp2
  refine ⟨trivial, (parts_in _ w.heap.size _).mono ?_⟩
  rintro e w' ⟨rfl, rfl⟩
  gi_wp2
  generalize hW0 : World.alloc (World.alloc (World.alloc (World.alloc w _) _) _) _ = W0
  have hsz : W0.heap.size = w.heap.size + 4 := by rw [← hW0]; simp
  have hI0 : BytesI x w.heap.size w [] W0 := by
    rw [← hW0]
    refine ⟨⟨by omega, .slice none 0 0, ?_, ⟨rfl, .inl ⟨rfl, rfl⟩⟩⟩, ?_, ?_, ?_⟩
    · rw [Below.heap_alloc _ _ _ (by simp), Below.heap_alloc _ _ _ (by simp)]
      have := heap_alloc_new (w.alloc (.cells (encSt x) 35)) (.cells #[Value.slice none 0 0] 171)
      simpa using this
    · rw [Below.heap_alloc _ _ _ (by simp; omega), Below.heap_alloc _ _ _ (by simp; omega), Below.heap_alloc _ _ _ (by simp)]
      exact heap_alloc_new _ _
    · rw [Below.heap_alloc _ _ _ (by simp)]
      have := heap_alloc_new ((w.alloc (.cells (encSt x) 35)).alloc (.cells #[Value.slice none 0 0] 171)) (.cells #[.pointer (some ⟨w.heap.size + 1, 0, none⟩)] 169)
      simpa using this
    · exact ((((Below.refl _ w).alloc (Nat.le_refl _) _).alloc (by simp) _).alloc (by simp; omega) _).alloc (by simp; omega) _
  have hBs : W0.heap[w.heap.size + 3]? = some (Obj.cells #[.pointer (some ⟨w.heap.size, 0, none⟩)] 204 (0, 0)) := by
    rw [← hW0]
    have := heap_alloc_new (((w.alloc (.cells (encSt x) 35)).alloc (.cells #[Value.slice none 0 0] 171)).alloc (.cells #[.pointer (some ⟨w.heap.size + 1, 0, none⟩)] 169)) (.cells #[.pointer (some ⟨w.heap.size, 0, none⟩)] 204)
    simpa using this
  clear hW0
  generalize hb0 : w.heap.size = b0 at *
  refine wpIn_rangeFunc_ownG (α := SFld) rfl (by omega) (gf := 124) (lb := #[.pointer (some ⟨b0 + 3, 0, none⟩)]) rfl trivial (enters_of Tryd.func124 (by kernel_rfl) rfl)
    (parts_stops 2 (b0 + 3) b0 W0 hBs) KpT.trans (fun W l o o' _ h hc _ => KpT.put W l o o' h hc) (Below.refl _ _) (fun _ => rfl)
    (BytesI x b0 w) (fun _ _ _ => False) (BytesI.own x b0 _ w (by omega)) (fun _ _ _ _ _ h _ _ => h) hI0
    (fun y => { tmps := #[Value.agg (encSt x), .pointer (some ⟨b0, 0, none⟩), .slice none 0 0, .pointer (some ⟨b0 + 1 + 1, 0, none⟩), fldA b0 y.1, fldC b0 y.1, .agg #[.slice none 0 0], .pointer (some ⟨b0 + 1, 0, none⟩),
      .func (.func 124) #[] #[.pointer (some ⟨b0 + 1 + 1 + 1, 0, none⟩)], fldA b0 y.1, fldC b0 y.1, undef, undef, undef, undef, undef, undef, undef, undef, undef, undef, undef, undef, undef, undef], defers := [] }) ?assign ?body ?done ?stop
  case assign =>
    intro l y W K hK
    dsimp only [fldEnc]
    gi_wp2
    exact hK
  case body =>
    rintro l pre ⟨y, hy⟩ W hI hlen
    have hIst := hI.st
    have hItw := hI.tw
    have hwr := hI.wr
    have hlt := hwr.lt
    have hln := len_flat x (pre.map (·.1))
    rw [List.flatMap_map, List.length_map] at hln
    have hCC : ∀ W W' : World, (W.heap[b0]? = some (Obj.cells (encSt x) 35 (0, 0)) ∧ W.heap[b0 + 1 + 1]? = some (Obj.cells #[.pointer (some ⟨b0 + 1, 0, none⟩)] 169 (0, 0))) → Below W.heap.size W W' →
        (W'.heap[b0]? = some (Obj.cells (encSt x) 35 (0, 0)) ∧ W'.heap[b0 + 1 + 1]? = some (Obj.cells #[.pointer (some ⟨b0 + 1, 0, none⟩)] 169 (0, 0))) :=
      fun W W' h hb => ⟨(hb.block _ (Array.getElem?_eq_some_iff.1 h.1).1).trans h.1, (hb.block _ (Array.getElem?_eq_some_iff.1 h.2).1).trans h.2⟩
    cases y with
    | h o =>
      obtain ⟨ho, hf⟩ := fld_h x o hy
      dsimp only [fldA, fldC]
      gi_wp2
      refine wpIn_region_mix rfl [true, true, true, true, false] (fun W => W.heap[b0]? = some (Obj.cells (encSt x) 35 (0, 0)) ∧ W.heap[b0 + 1 + 1]? = some (Obj.cells #[.pointer (some ⟨b0 + 1, 0, none⟩)] 169 (0, 0))) hCC ⟨hIst, hItw⟩ (by kernel_rfl) (by kernel_rfl) ?_
      intro W1 hb1 hC1
      iterate 4 (refine wpMixIn_q rfl (fun _ => rfl) (fun K hK => ?_); refine ⟨_, (fun Wq hWq => by obtain ⟨h1, h2⟩ := hWq; have g1 := rowD_of_heap h1; have g2 := rowD_of_heap h2; have g3 := (Array.getElem?_eq_some_iff.1 h1).1; have g4 := (Array.getElem?_eq_some_iff.1 h2).1; go_simp; exact rfl), ?_⟩; go_simp; refine hK _ ?_; clear hK K)
      refine wpMixIn_s rfl (fun W2 hb2 K hK => ?_)
      have hb12 := hb1.trans (hb2.mono hb1.size)
      have hwr2 := hwr.below hb12
      have hk02 := WrK.of_below (base := b0) (wb := b0 + 1) hb12
      refine ⟨fun _ _ => trivial, ?_⟩
      go_simp
      refine (CallsIn.inRound l (callsIn_wide.2 (WHash_any (hashAt x o) b0 (b0 + 1) _ W2 hwr2 (by omega) (by have := hwr2.lt; omega)))).mono ?_
      rintro e W3 ⟨rfl, hwr3, hk23⟩
      have hk03 := hk02.trans hk23
      refine ⟨_, rfl, hK _ _ ?_ ?_⟩
      · have h2 := hCC _ _ ⟨hIst, hItw⟩ hb12
        exact ⟨(hk23.block _ (Array.getElem?_eq_some_iff.1 h2.1).1 (by omega) (.inr fun c f e => by rw [h2.1] at e; cases e)).trans h2.1, (hk23.block _ (Array.getElem?_eq_some_iff.1 h2.2).1 (by omega) (.inr fun c f e => by rw [h2.2] at e; cases e)).trans h2.2⟩
      refine wpMixIn_nil (fun W4 hb4 => ?_)
      gi_wp2
      exact ⟨(hk03.trans (WrK.of_below hb4)).keepsFrom hwr, (hk03.trans (WrK.of_below hb4)).kpT hwr, hI.next (y := ⟨.h o, hy⟩) hk03 hwr3 hb4 (by omega)⟩
    | n o =>
      have hf := fld_n x o hy
      have hnlt := numAt_lt x hx o
      dsimp only [fldA, fldC]
      gi_wp2
      refine wpIn_region_mix rfl [true, true, true, true, false] (fun W => W.heap[b0]? = some (Obj.cells (encSt x) 35 (0, 0)) ∧ W.heap[b0 + 1 + 1]? = some (Obj.cells #[.pointer (some ⟨b0 + 1, 0, none⟩)] 169 (0, 0))) hCC ⟨hIst, hItw⟩ (by kernel_rfl) (by kernel_rfl) ?_
      intro W1 hb1 hC1
      iterate 4 (refine wpMixIn_q rfl (fun _ => rfl) (fun K hK => ?_); refine ⟨_, (fun Wq hWq => by obtain ⟨h1, h2⟩ := hWq; have g1 := rowD_of_heap h1; have g2 := rowD_of_heap h2; have g3 := (Array.getElem?_eq_some_iff.1 h1).1; have g4 := (Array.getElem?_eq_some_iff.1 h2).1; go_simp; exact rfl), ?_⟩; go_simp; refine hK _ ?_; clear hK K)
      refine wpMixIn_s rfl (fun W2 hb2 K hK => ?_)
      have hb12 := hb1.trans (hb2.mono hb1.size)
      have hwr2 := hwr.below hb12
      have hk02 := WrK.of_below (base := b0) (wb := b0 + 1) hb12
      refine ⟨fun _ _ => trivial, ?_⟩
      go_simp
      refine (CallsIn.inRound l (callsIn_wide.2 (Num_any (numAt x o) b0 (b0 + 1) _ W2 hwr2 hnlt (by omega) (by have := hwr2.lt; omega)))).mono ?_
      rintro e W3 ⟨rfl, hwr3, hk23⟩
      have hk03 := hk02.trans hk23
      refine ⟨_, rfl, hK _ _ ?_ ?_⟩
      · have h2 := hCC _ _ ⟨hIst, hItw⟩ hb12
        exact ⟨(hk23.block _ (Array.getElem?_eq_some_iff.1 h2.1).1 (by omega) (.inr fun c f e => by rw [h2.1] at e; cases e)).trans h2.1, (hk23.block _ (Array.getElem?_eq_some_iff.1 h2.2).1 (by omega) (.inr fun c f e => by rw [h2.2] at e; cases e)).trans h2.2⟩
      refine wpMixIn_nil (fun W4 hb4 => ?_)
      gi_wp2
      exact ⟨(hk03.trans (WrK.of_below hb4)).keepsFrom hwr, (hk03.trans (WrK.of_below hb4)).kpT hwr, hI.next (y := ⟨.n o, hy⟩) hk03 hwr3 hb4 (by omega)⟩
  case done =>
    rintro D ys W hD hys hI hK
    have hItw := hI.tw
    have hwr := hI.wr
    have hlt := hwr.lt
    have hbs : (ys.flatMap fun y => fldB x y.1) = bytesOf x := by
      rw [← bytesOf_flat]
      have := congrArg (List.flatMap (fldB x)) hys
      rwa [List.flatMap_map] at this
    rw [hbs] at hwr
    have hne : bytesOf x ≠ [] := by
      intro e
      have := congrArg List.length e
      simp [bytesOf, x.prev.len] at this
    have hlen : (bytesOf x).length ≤ 140737488355328 := by
      rw [← bytesOf_flat]
      have := len_flat x stFld
      have : stFld.length = 22 := rfl
      omega
    have g2 := rowD_of_heap hItw
    have g4 := (Array.getElem?_eq_some_iff.1 hItw).1
    gi_wp2
    refine ⟨trivial, (callsIn_wide.2 (WBytes_any b0 (b0 + 1) (bytesOf x) W hwr hne hlen)).mono ?_⟩
    rintro e W2 ⟨v, rfl, hbs2, hb2⟩
    have hK2 := (hb2.block D (Array.getElem?_eq_some_iff.1 hK).1).trans hK
    have hBel := (hI.below.trans (hb2.mono (by omega)))
    clear hne hlen hbs hwr hI
    gi_wp2
    refine ⟨by simp, .inl ⟨_, _, rfl, run_takeDeferred hK2, ?_⟩⟩
    have hput := grownBy_putObj' W2 D (.deferred none)
    have hnc : ∀ r, some D = some r → ∃ o : Obj, W2.heap[r]? = some o ∧ o.isCells = false := fun r e => by cases e; exact ⟨_, hK2, rfl⟩
    refine ⟨_, results_tmp rfl _ _ _, v, rfl, ?_, ?_⟩
    · rw [hb0]
      exact (hbs2.mono (by omega)).grown_other hput hnc
    · rw [hb0]
      exact hBel.grown hput (by have := hb2.size; omega) (fun k e => by cases e; omega)
  case stop =>
    rintro D c pre W _ _ h _
    exact h.elim
end Go.Proofs.YtpoaakdljpdkfaaDoor
namespace Go.Alm
theorem be_lt (n k : Nat) : ∀ v ∈ be n k, v < 256 := by
  intro v hv
  unfold be at hv
  obtain ⟨i, _, rfl⟩ := List.mem_map.1 hv
  exact Nat.mod_lt _ (by omega)
theorem bytesOf_lt (s : St) : ∀ v ∈ bytesOf s, v < 256 := by
  intro v hv
  simp only [bytesOf, dataBytes, List.mem_append, List.mem_flatMap] at hv
  rcases hv with ((((((((((h | h) | h) | h) | h) | h) | h) | h) | ⟨c, _, h⟩) | h) | h)
  · exact s.prev.lt v h
  · exact s.ledger.lt v h
  · exact s.draw.lt v h
  · exact be_lt _ _ v h
  · exact be_lt _ _ v h
  · exact be_lt _ _ v h
  · exact be_lt _ _ v h
  · exact be_lt _ _ v h
  · exact be_lt _ _ v h
  · rcases h with (((h | h) | h) | h) | h
    · exact s.epochs.now.ledger.lt v h
    · exact s.epochs.now.seed.lt v h
    · exact s.epochs.now.start.lt v h
    · exact s.epochs.now.lock.lt v h
    · exact be_lt _ _ v h
  · rcases h with (((h | h) | h) | h) | h
    · exact s.epochs.next.ledger.lt v h
    · exact s.epochs.next.seed.lt v h
    · exact s.epochs.next.start.lt v h
    · exact s.epochs.next.lock.lt v h
    · exact be_lt _ _ v h
theorem len_bytesOf (s : St) : (bytesOf s).length = 396 := by
  obtain ⟨x, y, z, u, h⟩ := C4.parts s.win.ring.counts
  simp [h, bytesOf, dataBytes, be, s.prev.len, s.ledger.len, s.draw.len, s.epochs.now.ledger.len, s.epochs.now.seed.len, s.epochs.now.start.len, s.epochs.now.lock.len, s.epochs.next.ledger.len, s.epochs.next.seed.len, s.epochs.next.start.len, s.epochs.next.lock.len, s.win.ring.counts.len, List.length_flatMap]
end Go.Alm
namespace Go.Proofs.YtpoaakdljpdkfaaDoor
open Go.RowKit Go.Alm
def stateS : ByteArray := ⟨#[115, 116, 97, 116, 101]⟩
set_option maxRecDepth 20000 in
set_option maxHeartbeats 1000000 in
theorem Hash_any (x : St) (w : World) (hk : Keyed w) (hx : x.Wf) :
    Calls Tryd.prog 16 #[.agg (encSt x)] w fun e w' => e = .returned (.agg (encH (hashOf x))) ∧ Below w.heap.size w w' := by
  unfold hashOf
  have hB := fun w => Bytes_any x w hx
  have hne : bytesOf x ≠ [] := by
    intro e
    have := len_bytesOf x
    rw [e] at this
    simp at this
  have hlb : (bytesOf x).length ≤ 396 := Nat.le_of_eq (len_bytesOf x)
  have hlt := bytesOf_lt x
  generalize bytesOf x = bs at *
  obtain ⟨T, hT0⟩ : ∃ T, ∀ _ : Unit, tagOf stateName [bs] = T := ⟨_, fun _ => rfl⟩
  rw [hT0 ()]
  go_enter Tryd.func16, Tryd.ntmps16
  go_wp2_with fail
  generalize hW : World.alloc (World.alloc w _) _ = W
  have own : Owns w W [(w.heap.size, encSt x), (w.heap.size + 1, encH zeroH)] := hW ▸ own_two w _ _ _ _
  clear hW
  refine (hB _).mono ?_
  rintro e w1 ⟨v, rfl, hbs, hb1⟩
  have own1 := own.call hb1
  obtain ⟨g, cap, rfl, hg0, hg, hcap, hrg⟩ := hbs.at_ hne
  clear hbs own hB
  go_wp2_with fail
  have own2 := own1.alloc #[Value.slice (some ⟨g, 0, none⟩) bs.length cap] 124
  have hps : PartsAt (w1.alloc (.cells #[Value.slice (some ⟨g, 0, none⟩) bs.length cap] 124)) w1.heap.size 0 [bs] [] := by
    refine ⟨by simp, fun i hi => ?_⟩
    obtain rfl : i = 0 := by simpa using hi
    exact ⟨g, 0, cap, by rw [rowD_al _ _ _ rfl]; rfl, by simp; omega, by rw [rowD_alloc_old _ _ hg]; exact hrg⟩
  refine (Of_any stateName stateS [bs] [] w1.heap.size 0 1 _ (hk.below own2.below) (by kernel_rfl) (by kernel_rfl) (by decide) (by simp) (by simp) hps ?_ (by simp) ?_ ?_).mono ?_
  · intro p hp
    simp only [List.mem_singleton] at hp
    subst hp
    omega
  · simp [image, stateName, be]; omega
  · exact lt_image (by decide) (by decide) (by simp) (by intro p hp; simp only [List.mem_singleton] at hp; subst hp; exact hlt)
  rintro e w2 ⟨rfl, hb2⟩
  have own3 := own2.call hb2
  clear own1 own2 hps
  rw [hT0 ()]
  simp only [List.cons_append, List.nil_append] at own3
  obtain ⟨-, lt1, row1, fr1⟩ := own3.at2
  go_wp2_with fail
  exact ret_cell rfl rfl rfl (rWH _ _ T (by rw [rowD_setCells_same, row1, spliceL_all _ _ (by rw [Array.length_toList, size_encH, size_encH])])) ⟨rfl, below_setCells _ (by omega) _ _ _ _ own3.below⟩
end Go.Proofs.YtpoaakdljpdkfaaDoor

/- THE WALKS OF wire.Writer: put, Num, Hash. -/
import Derived.Test.YtpoaakdljpdkfaaDoorC17
set_option linter.unusedSimpArgs false
set_option linter.unusedVariables false
namespace Go.Proofs.YtpoaakdljpdkfaaDoor
open Go.RowKit Go.Alm
/-- a writer that holds the bytes bs, in a row of the walk's own -/
def Wr (base wb : Nat) (W : World) (bs : List Nat) : Prop := base ≤ wb ∧ ∃ v, W.heap[wb]? = some (.cells #[v] 171 (0, 0)) ∧ Bs base W v bs
/-- what writing leaves alone -/
structure WrK (base wb : Nat) (W W' : World) : Prop where
  os : W'.os = W.os
  tape : W'.tape = W.tape
  output : W'.output = W.output
  size : W.heap.size ≤ W'.heap.size
  block : ∀ k, k < W.heap.size → k ≠ wb → (k < base ∨ ∀ c f, W.heap[k]? ≠ some (.cells c 5 f)) → W'.heap[k]? = W.heap[k]?
theorem WrK.refl (base wb : Nat) (W : World) : WrK base wb W W := ⟨rfl, rfl, rfl, Nat.le_refl _, fun _ _ _ _ => rfl⟩
theorem WrK.trans {base wb : Nat} {W W' W'' : World} (h : WrK base wb W W') (h2 : WrK base wb W' W'') : WrK base wb W W'' :=
  ⟨h2.os.trans h.os, h2.tape.trans h.tape, h2.output.trans h.output, Nat.le_trans h.size h2.size, fun k hk hn hc => by
    have h1 := h.block k hk hn hc
    exact (h2.block k (Nat.lt_of_lt_of_le hk h.size) hn (by rw [h1]; exact hc)).trans h1⟩
theorem WrK.of_below {base wb : Nat} {W W' : World} (h : Below W.heap.size W W') : WrK base wb W W' := ⟨h.os, h.tape, h.output, h.size, fun k hk _ _ => h.block k hk⟩
theorem WrK.toBelow {base wb : Nat} {W W' : World} (h : WrK base wb W W') (hb : base ≤ wb) (hs : base ≤ W.heap.size) : Below base W W' :=
  ⟨h.os, h.tape, h.output, h.size, fun k hk => h.block k (by omega) (by omega) (.inl hk)⟩
theorem Wr.below {base wb : Nat} {W W' : World} {bs : List Nat} (h : Wr base wb W bs) (hb : Below W.heap.size W W') : Wr base wb W' bs := by
  obtain ⟨h0, v, h1, h2⟩ := h
  exact ⟨h0, v, (hb.block wb (Array.getElem?_eq_some_iff.1 h1).1).trans h1, h2.below hb⟩
theorem Wr.lt {base wb : Nat} {W : World} {bs : List Nat} (h : Wr base wb W bs) : wb < W.heap.size := by
  obtain ⟨h0, v, h1, h2⟩ := h
  exact (Array.getElem?_eq_some_iff.1 h1).1
theorem Bs.len {base : Nat} {w : World} {v : Value} {bs : List Nat} (h : Bs base w v bs) : ∃ a c, v = .slice a bs.length c := by
  rcases h.2 with ⟨h1, h2⟩ | ⟨g, cap, cur, h1, _⟩
  · exact ⟨none, 0, by rw [h1, h2]⟩
  · exact ⟨_, _, h1⟩
theorem heap_setCell_at {W : World} {g : Nat} {c : Array Value} {t : TypeId} {f : Nat × Nat} (h : W.heap[g]? = some (.cells c t f)) (i : Nat) (v : Value) : (W.setCell ⟨g, i, none⟩ v).heap[g]? = some (.cells (c.setIfInBounds i v) t f) := by
  unfold World.setCell
  simp [Array.getElem?_modify, h]
theorem Bs.own_u8 {base : Nat} {w : World} {v : Value} {bs : List Nat} (h : Bs base w v bs) : ∀ k, v.ownBlock = some k → base ≤ k ∧ ∃ c, w.heap[k]? = some (.cells c 5 (0, 0)) := by
  intro k hk
  rcases h.2 with ⟨h1, _⟩ | ⟨g, cap, cur, h1, h2, h3, _⟩
  · rw [h1] at hk; cases hk
  · rw [h1] at hk; cases hk; exact ⟨h2, cur, h3⟩
theorem Bs.own_ne {base wb : Nat} {w : World} {v u : Value} {bs : List Nat} (h : Bs base w v bs) (hw : w.heap[wb]? = some (.cells #[u] 171 (0, 0))) : some wb ≠ v.ownBlock := by
  intro e
  obtain ⟨_, c, h2⟩ := h.own_u8 wb e.symm
  rw [hw] at h2
  simp at h2
theorem WrK.grown {base wb : Nat} {w w' : World} {v : Value} {bs : List Nat} (h : Bs base w v bs) (hg : w.grownBy w' v.ownBlock) : WrK base wb w w' :=
  ⟨hg.os, hg.tape, hg.output, hg.size, fun k hk _ hc => hg.block k hk (fun e => by
    obtain ⟨h1, c, h2⟩ := h.own_u8 k e.symm
    rcases hc with h3 | h3
    · omega
    · exact h3 _ _ h2)⟩
theorem WrK.set {base wb : Nat} {W W' : World} (h : WrK base wb W W') (i : Nat) (v : Value) : WrK base wb W (W'.setCell ⟨wb, i, none⟩ v) :=
  ⟨h.os, h.tape, h.output, by simpa using h.size, fun k hk hn hc => by rw [heap_setCell_other _ _ _ _ hn]; exact h.block k hk hn hc⟩
theorem Bs.set_other {base wb : Nat} {w : World} {v u : Value} {bs : List Nat} (h : Bs base w v bs) (hw : w.heap[wb]? = some (.cells #[u] 171 (0, 0))) (i : Nat) (x : Value) : Bs base (w.setCell ⟨wb, i, none⟩ x) v bs := by
  have hne := h.own_ne hw
  refine ⟨h.1, ?_⟩
  rcases h.2 with h1 | ⟨g, cap, cur, h1, h2, h3, h4⟩
  · exact .inl h1
  · refine .inr ⟨g, cap, cur, h1, h2, ?_, h4⟩
    rw [heap_setCell_other _ _ _ _ (fun e => hne (by rw [h1]; exact congrArg some (show g = wb from e).symm))]
    exact h3
/-- the end of each way of writing: the new slice is laid into the writer -/
theorem Wr.done {base wb : Nat} {w W4 W5 : World} {v v' : Value} {bs' : List Nat} (hb0 : base ≤ wb) (hk : WrK base wb w W4) (hv4 : W4.heap[wb]? = some (.cells #[v] 171 (0, 0))) (hbs4 : Bs base W4 v' bs') (hb : Below W4.heap.size W4 W5) :
    Wr base wb (W5.setCell ⟨wb, 0, none⟩ v') bs' ∧ WrK base wb w (W5.setCell ⟨wb, 0, none⟩ v') := by
  have hv5 := (hb.block wb (Array.getElem?_eq_some_iff.1 hv4).1).trans hv4
  have hbs5 := hbs4.below hb
  exact ⟨⟨hb0, v', heap_setCell_at hv5 0 v', hbs5.set_other hv5 0 v'⟩, (hk.trans (WrK.of_below hb)).set 0 v'⟩
theorem be_take (n size t : Nat) (ht : t < size) : (be n size).take (t + 1) = (be n size).take t ++ [n / 256 ^ (size - 1 - t) % 256] := by
  have hl : t < (be n size).length := by simpa [be] using ht
  rw [List.take_succ_eq_append_getElem hl]
  simp [be]
theorem run_appB {w : World} (base : Nat) (v : Value) (bs news : List Nat) (hown : Bs base w v bs) (ty : TypeId)
    (g off m c : Nat) (hm : m = news.length) (hrow : (w.rowD g).extract off (off + news.length) = encB news) (hlen : bs.length + news.length ≤ 140737488355328) (hbase : base ≤ w.heap.size) :
    ∃ v' w', (Builtin.append_ #[124, 124] ty #[v, .slice (some ⟨g, off, none⟩) m c]).run Tryd.prog w = .ok v' w' ∧ Bs base w' v' (bs ++ news) ∧ w.grownBy w' v.ownBlock := by
  subst hm
  obtain ⟨i, hi⟩ : ∃ i, Tryd.prog.info? 5 = some i := Option.isSome_iff_exists.1 (by kernel_rfl)
  have hz : (Tryd.prog.info? 5).bind (·.zero) = some (.int .u8 0) := by kernel_rfl
  have hsz : (Tryd.prog.info? 5).map (·.size) = some 1 := by kernel_rfl
  have hby : (Tryd.prog.info? 5).map (·.bytes) = some 1 := by kernel_rfl
  rw [hi] at hz hsz hby
  obtain ⟨v', w', h1, h2, h3, -⟩ := run_append_own w base 124 ty 5 i (.int .u8 0) 1 1 (by kernel_rfl) hi (by simpa using hz) (by simpa using hsz) (by simpa using hby) rfl (by omega) v bs.length _ hown ⟨g, off, none⟩ news.length c (news.map fun n : Nat => Value.int .u8 (n : Int)) (by simp) (fun j u hj => by
      rw [addr_mid, cell_rowD]
      have e := congrArg (·[j]?) hrow
      simp only [encB, List.getElem?_toArray] at e
      rw [hj] at e
      simp only [Array.getElem?_extract] at e
      split at e
      · exact e
      · cases e) (fun u hu => by obtain ⟨n, _, rfl⟩ := List.mem_map.1 hu; rfl) (by simp only [maxLen]; omega) (by omega) hbase
  exact ⟨v', w', h1, by unfold Bs; simpa using h2, h3⟩
theorem calm_appB {w : World} {o : Oper} {a : Act} {K : Act → World → Prop} (s x : Operand)
    (ho : o.op = .call { callee := .builtin .append, args := #[s, x], argTypes := #[124, 124] }) (base : Nat) (v : Value) (bs news : List Nat) (hs : a.eval s = v) (hown : Bs base w v bs)
    (g off m c : Nat) (hx : a.eval x = .slice (some ⟨g, off, none⟩) m c) (hm : m = news.length) (hrow : (w.rowD g).extract off (off + news.length) = encB news) (hlen : bs.length + news.length ≤ 140737488355328) (hbase : base ≤ w.heap.size)
    (h : ∀ v' w', Bs base w' v' (bs ++ news) → w.grownBy w' v.ownBlock → K (a.put o.dst v') w') : o.calm Tryd.prog a w K := by
  obtain ⟨v', w', hrun, h1, h2⟩ := run_appB base v bs news hown o.type g off m c hm hrow hlen hbase
  have e : (execOp a.eval o).run Tryd.prog w = .ok (.value v') w' := by
    unfold execOp
    simp only [ho, resolve, invoke, builtin, Sem.run_bind, Sem.run_pure, Result.andThen_ok, List.map_toArray, List.map_cons, List.map_nil, hs, hx, hrun]
  unfold Oper.calm
  rw [e]
  exact h v' w' h1 h2
set_option maxRecDepth 20000 in
set_option maxHeartbeats 1000000 in
theorem put_any (n size base wb : Nat) (bs : List Nat) (w : World) (hw : Wr base wb w bs) (hn : n < 18446744073709551616) (hs : size ≤ 8) (hlen : bs.length + 8 ≤ 140737488355328) (hbase : base ≤ w.heap.size) :
    Calls Tryd.prog 127 #[.pointer (some ⟨wb, 0, none⟩), .int .u64 n, .int .i64 size] w fun e w' => e = .returned (.tuple #[]) ∧ Wr base wb w' (bs ++ be n size) ∧ WrK base wb w w' := by
  go_enter Tryd.func127, Tryd.ntmps127
  go_wp2_with fail
  go_loopw [8] (fun i wr => ∃ t : Nat, t ≤ size ∧ i = .int .i64 t ∧ Wr base wb wr (bs ++ (be n size).take t) ∧ WrK base wb w wr)
    (fun i _ => size - (intOf i).toNat)
  case atStart => exact ⟨0, Nat.zero_le _, rfl, by simpa using hw, WrK.refl _ _ _⟩
  case round =>
    obtain ⟨t, ht, rfl, hwr, hk⟩ := hrel
    by_cases hend : t = size
    · subst hend
      go_wp2_with fail
      exact bodyPost_end (results_none rfl _ _ _) rfl ⟨rfl, by rwa [List.take_of_length_le (by simp [be])] at hwr, hk⟩
    · have ht' : t < size := by omega
      obtain ⟨hb0, v, hv, hbs⟩ := hwr
      have hrow := rowD_of_heap hv
      have hlt := (Array.getElem?_eq_some_iff.1 hv).1
      go_wp2_with fail
      obtain ⟨k, hk0⟩ : ∃ k, k = size - 1 - t := ⟨_, rfl⟩
      obtain ⟨k1, hk1, e1⟩ : ∃ k1 : Nat, k1 = size - 1 ∧ IntKind.i64.wrap ((size : Int) - 1) = (k1 : Int) := ⟨size - 1, rfl, by rw [IntWalk.i64_in _ (by omega)]; omega⟩
      have e2 : IntKind.i64.wrap ((k1 : Int) - (t : Int)) = (k : Int) := by rw [IntWalk.i64_in _ (by omega)]; omega
      have e3 : IntKind.i64.wrap (8 * (k : Int)) = 8 * (k : Int) := IntWalk.i64_in _ (by omega)
      have e4 : ∀ w, (Op.shift .shr .u64 (n : Int) .i64 (8 * (k : Int))).run Tryd.prog w = .ok (.int .u64 ((n / 256 ^ k : Nat) : Int)) w := fun w => by
        rw [shift_shr _ _ _ _ (by omega) (by show 8 * (k : Int) ≤ 64; omega)]
        have : (8 * (k : Int)).toNat = 8 * k := by omega
        rw [this, show (256 : Nat) = 2 ^ 8 by rfl, ← Nat.pow_mul]
        simp
      have e5 : (((n / 256 ^ k : Nat) : Int)) % 256 = ((n / 256 ^ k % 256 : Nat) : Int) := by omega
      generalize hnk0 : n / 256 ^ k = nk at e4 e5
      have hnk : ∀ _ : Unit, nk = n / 256 ^ (size - 1 - t) := fun _ => by rw [← hk0]; exact hnk0.symm
      clear hk0 hk1 hn hnk0
      have hC0 : wr.heap[wb]? = some (.cells #[v] 171 (0, 0)) := hv
      refine wp_region_midD 13 2 (fun W => W.heap[wb]? = some (.cells #[v] 171 (0, 0))) (fun W W' h hb => (hb.block wb (Array.getElem?_eq_some_iff.1 h).1).trans h) hC0 (by kernel_rfl) (by kernel_rfl) ?_
      simp only [List.take_succ_cons, List.take_zero, List.drop_succ_cons, List.drop_zero]
      iterate 13 (refine wpGrowC_y rfl (fun K hK => ?_); refine ⟨_, (fun W hW => by have g1 := rowD_of_heap hW; have g2 := (Array.getElem?_eq_some_iff.1 hW).1; go_simp; exact rfl), ?_⟩; go_simp; refine hK _ ?_; clear hK K)
      refine wpGrowC_nil ?_
      intro W1 hb1 hv1
      refine wpMidC_step rfl (fun W2 hb2 K hK => ?_)
      have hb12 := hb1.trans (hb2.mono hb1.size)
      have hv2 := (hb2.block wb (Array.getElem?_eq_some_iff.1 hv1).1).trans hv1
      have lt2 := (Array.getElem?_eq_some_iff.1 hv2).1
      go_simp
      refine hK _ _ ((Below.heap_alloc W2 _ wb lt2).trans hv2) ?_; clear hK K
      refine wpMidC_step rfl (fun W3 hb3 K hK => ?_)
      have hb13 : Below wr.heap.size wr W3 := (hb12.alloc hb12.size _).trans (hb3.mono (Nat.le_trans hb12.size (by simp)))
      have hv3 := (hb13.block wb hlt).trans hv
      have hbs3 := hbs.below hb13
      have hrow3 : (W3.rowD W2.heap.size).extract 0 (0 + [nk % 256].length) = encB [nk % 256] := by
        rw [rowD_congr (hb3.block W2.heap.size (by simp))]
        exact row_oneE W2 (nk % 256) _ (by rw [IntKind.wrap_u8]; omega) _
      refine calm_appB _ _ rfl base v (bs ++ (be n size).take t) [nk % 256] rfl hbs3 W2.heap.size 0 1 1 rfl rfl hrow3 (by simp [be]; omega) (Nat.le_trans hbase (Nat.le_trans hk.size hb13.size)) ?_
      intro v' W4 hbs4 hgr
      have hv4 : W4.heap[wb]? = some (.cells #[v] 171 (0, 0)) := (hgr.block wb (Array.getElem?_eq_some_iff.1 hv3).1 (hbs3.own_ne hv3)).trans hv3
      have hk4 := (hk.trans (WrK.of_below hb13)).trans (WrK.grown (wb := wb) hbs3 hgr)
      refine hK _ _ hv4 ?_; clear hK K
      clear hb1 hv1 hb2 hb12 hv2 lt2 hb3 hb13 hv3 hbs3 hrow3 hgr hC0 hrow hbs hv hlt
      refine wpMidC_nil (fun W5 hb5 => ?_)
      have hd := fun W' (hb : Below W4.heap.size W4 W') => Wr.done hb0 hk4 hv4 hbs4 hb
      have hv5 := (hb5.block wb (Array.getElem?_eq_some_iff.1 hv4).1).trans hv4
      have lt5 := (Array.getElem?_eq_some_iff.1 hv5).1
      have row5 := rowD_of_heap hv5
      have fr5 : ∀ i, W5.frozen? ⟨wb, i, none⟩ = false := fun i => by simp [World.frozen?, hv5]
      obtain ⟨sa, sm, sc, rfl⟩ : ∃ a m c, v' = .slice a m c := by obtain ⟨a, c, e⟩ := hbs4.len; exact ⟨_, _, _, e⟩
      clear hbs4 hk4 hv4 e1 e2 e3 e4 e5
      go_wp2_with fail
      refine ⟨⟨t + 1, by omega, by go_num, ?_, (hd _ hb5).2⟩, by simp [intOf]; omega⟩
      have := (hd _ hb5).1
      rw [List.append_assoc, show (be n size).take t ++ [nk % 256] = (be n size).take (t + 1) by rw [hnk ()]; exact (be_take n size t ht').symm] at this
      exact this
theorem Num_any (n base wb : Nat) (bs : List Nat) (w : World) (hw : Wr base wb w bs) (hn : n < 4294967296) (hlen : bs.length + 8 ≤ 140737488355328) (hbase : base ≤ w.heap.size) :
    Calls Tryd.prog 103 #[.pointer (some ⟨wb, 0, none⟩), .int .u32 n] w fun e w' => e = .returned (.tuple #[]) ∧ Wr base wb w' (bs ++ be n 4) ∧ WrK base wb w w' := by
  go_enter Tryd.func103, Tryd.ntmps103
  go_wp2_with fail
  refine (put_any n 4 base wb bs _ hw (by omega) (by omega) hlen hbase).mono ?_
  rintro e w1 ⟨rfl, h1, h2⟩
  go_wp2_with fail
  exact bodyPost_end (results_none rfl _ _ _) rfl ⟨rfl, h1, h2⟩
set_option maxRecDepth 20000 in
set_option maxHeartbeats 1000000 in
theorem WHash_any (x : H32) (base wb : Nat) (bs : List Nat) (w : World) (hw : Wr base wb w bs) (hlen : bs.length + 32 ≤ 140737488355328) (hbase : base ≤ w.heap.size) :
    Calls Tryd.prog 102 #[.pointer (some ⟨wb, 0, none⟩), .agg (encH x)] w fun e w' => e = .returned (.tuple #[]) ∧ Wr base wb w' (bs ++ x.l) ∧ WrK base wb w w' := by
  obtain ⟨hb0, v, hv, hbs⟩ := hw
  have hlt := (Array.getElem?_eq_some_iff.1 hv).1
  go_enter Tryd.func102, Tryd.ntmps102
  go_wp2_with fail
  generalize hW : World.alloc w _ = W
  have own : Owns w W [(w.heap.size, encH x)] := hW ▸ own_one w _ _
  clear hW
  have hvW := (own.below.block wb hlt).trans hv
  have hltW := (Array.getElem?_eq_some_iff.1 hvW).1
  refine wp_region_midD 6 1 (fun W => W.heap[wb]? = some (.cells #[v] 171 (0, 0))) (fun W W' h hb => (hb.block wb (Array.getElem?_eq_some_iff.1 h).1).trans h) hvW (by kernel_rfl) (by kernel_rfl) ?_
  simp only [List.take_succ_cons, List.take_zero, List.drop_succ_cons, List.drop_zero]
  iterate 6 (refine wpGrowC_y rfl (fun K hK => ?_); refine ⟨_, (fun W hW => by have g1 := rowD_of_heap hW; have g2 := (Array.getElem?_eq_some_iff.1 hW).1; go_simp; exact rfl), ?_⟩; go_simp; refine hK _ ?_; clear hK K)
  refine wpGrowC_nil ?_
  intro W1 hb1 hv1
  refine wpMidC_step rfl (fun W3 hb3 K hK => ?_)
  have own3 := (own.call hb1).call (hb3)
  have hb13 := own3.below
  have hv3 := (hb13.block wb hlt).trans hv
  have hbs3 := hbs.below hb13
  obtain ⟨-, lt3, row3, -⟩ := own3.at1
  refine calm_appB _ _ rfl base v bs x.l rfl hbs3 w.heap.size 0 32 32 rfl x.len.symm (by rw [row3, x.len]; exact whole_h x) (by rw [x.len]; exact hlen) (Nat.le_trans hbase hb13.size) ?_
  intro v' W4 hbs4 hgr
  have hv4 : W4.heap[wb]? = some (.cells #[v] 171 (0, 0)) := (hgr.block wb (Array.getElem?_eq_some_iff.1 hv3).1 (hbs3.own_ne hv3)).trans hv3
  have hk4 := ((WrK.refl base wb w).trans (WrK.of_below hb13)).trans (WrK.grown (wb := wb) hbs3 hgr)
  refine hK _ _ hv4 ?_; clear hK K
  clear hb1 hv1 hb3 hb13 hv3 hbs3 row3 lt3 hgr hbs hv hlt hvW hltW own own3
  refine wpMidC_nil (fun W5 hb5 => ?_)
  have hd := Wr.done hb0 hk4 hv4 hbs4 hb5
  have hv5 := (hb5.block wb (Array.getElem?_eq_some_iff.1 hv4).1).trans hv4
  have lt5 := (Array.getElem?_eq_some_iff.1 hv5).1
  have row5 := rowD_of_heap hv5
  have fr5 : ∀ i, W5.frozen? ⟨wb, i, none⟩ = false := fun i => by simp [World.frozen?, hv5]
  obtain ⟨sa, sm, sc, rfl⟩ : ∃ a m c, v' = .slice a m c := by obtain ⟨a, c, e⟩ := hbs4.len; exact ⟨_, _, _, e⟩
  clear hbs4 hk4 hv4
  replace hd : ∀ _ : Unit, _ := fun _ => hd
  go_wp2_with fail
  exact bodyPost_end (results_none rfl _ _ _) rfl ⟨rfl, (hd ()).1, (hd ()).2⟩
end Go.Proofs.YtpoaakdljpdkfaaDoor

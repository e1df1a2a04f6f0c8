/- THE WALKS OF sha: New, Sum, Of. -/
import Derived.Test.YtpoaakdljpdkfaaDoorC9
import Derived.ArgAppend
set_option linter.unusedSimpArgs false
set_option linter.unusedVariables false
namespace Go
open Go.RowKit
theorem wpList_app {P : Program} {w : World} {ops : Array Oper} {rest : List Oper} {o : Oper} {a : Act} {Q : Exit → Act → World → Prop} (hg : o.guard = none) (s x : Operand) (t : TypeId)
    (hop : o.op = Op.call { callee := Callee.builtin Builtin.append, args := #[s, x], argTypes := #[t, t] }) (vs vx v' : Value) (w' : World) (hs : a.eval s = vs) (hx : a.eval x = vx) (hrun : ∀ ty, (Builtin.append_ #[t, t] ty #[vs, vx]).run P w = .ok v' w')
    (hK : wpList P ops Q rest (a.put o.dst v') w') : wpList P ops Q (o :: rest) a w := by
  refine wpList_plain hg fun K hK' => ?_
  unfold Oper.wp
  simp [execOp, hop, resolve, invoke, builtin, hs, hx, hrun, Result.andThen]
  exact hK' _ _ hK
theorem Owns.kept {w W W' : World} {L : List (Nat × Array Value)} (h : Owns w W L) {g : Nat} {c' : Array Value} (hg : w.heap.size ≤ g) (hgW : g < W.heap.size) (hk : Kept g W W') (hr : W'.rowD g = c') : Owns w W' (L.map fun p => if p.1 = g then (p.1, c') else p) := by
  refine ⟨⟨hk.os.trans h.below.os, hk.tape.trans h.below.tape, hk.output.trans h.below.output, Nat.le_trans h.below.size hk.size, fun k hk' => (hk.block k (Nat.lt_of_lt_of_le hk' h.below.size) (by omega)).trans (h.below.block k hk')⟩, fun p hp => ?_⟩
  obtain ⟨q, hq, rfl⟩ := List.mem_map.1 hp
  obtain ⟨h1, h2, h3, h4⟩ := h.blocks q hq
  by_cases e : q.1 = g
  · rw [if_pos e]
    exact ⟨h1, Nat.lt_of_lt_of_le h2 hk.size, by rw [e]; exact hr, fun i => by rw [e, hk.frozen i, ← e]; exact h4 i⟩
  · rw [if_neg e]
    refine ⟨h1, Nat.lt_of_lt_of_le h2 hk.size, by rw [hk.rowD h2 e]; exact h3, fun i => ?_⟩
    rw [← h4 i]
    have := hk.block _ h2 e
    simp only [World.frozen?, this]
end Go
namespace Go.Alm
theorem outB_get : ∀ (s : List Nat) (a b : Nat), a < s.length → b < 4 → (outB s).getD (4 * a + b) 0 = s.getD a 0 / 256 ^ (3 - b) % 256
  | [], _, _, h, _ => by cases h
  | x :: s, 0, b, _, hb => by
    match b, hb with
    | 0, _ => rfl
    | 1, _ => rfl
    | 2, _ => rfl
    | 3, _ => simp [outB]
  | x :: s, a + 1, b, h, hb => by
    have : outB (x :: s) = [x / 16777216 % 256, x / 65536 % 256, x / 256 % 256, x % 256] ++ outB s := by simp [outB]
    rw [this, List.getD_eq_getElem?_getD, List.getElem?_append_right (by simp; omega), ← List.getD_eq_getElem?_getD]
    rw [show 4 * (a + 1) + b - [x / 16777216 % 256, x / 65536 % 256, x / 256 % 256, x % 256].length = 4 * a + b by simp; omega]
    rw [outB_get s a b (by simpa using h) hb]
    simp
theorem lt_pad (n : Nat) : ∀ v ∈ pad n, v < 256 := by
  intro v hv
  simp only [pad, List.mem_append, List.mem_singleton, List.mem_map] at hv
  rcases hv with (rfl | hv) | ⟨i, _, rfl⟩
  · omega
  · rw [List.eq_of_mem_replicate hv]; omega
  · exact Nat.mod_lt _ (by omega)
theorem len_pad (n : Nat) : (pad n).length = 9 + (119 - n % 64) % 64 := by simp [pad]; omega
theorem prefix_encB (l r : List Nat) : (encB (l ++ r)).extract 0 (0 + l.length) = encB l := by
  apply Array.toList_inj.1
  simp [encB, List.extract_eq_take_drop]
end Go.Alm
namespace Go.Proofs.YtpoaakdljpdkfaaDoor
open Go.RowKit Go.Alm
theorem app1 (wr : World) (b len : Nat) (v : Value) (hv : v.oneCell' = true) (h1 : len + 1 ≤ 73) (hrow : (wr.rowD b).size = 73) (hb : b < wr.heap.size) (hf : ∀ i, wr.frozen? ⟨b, i, none⟩ = false) (ty : TypeId) :
    (Builtin.append_ #[124, 124] ty #[.slice (some ⟨b, 0, none⟩) len 73, .slice (some ⟨wr.heap.size, 0, none⟩) 1 1]).run Tryd.prog (wr.alloc (.cells #[v] 5)) = .ok (.slice (some ⟨b, 0, none⟩) (len + 1) 73) ((wr.alloc (.cells #[v] 5)).setCells b len [v]) := by
  obtain ⟨i, hi⟩ : ∃ i, Tryd.prog.info? 5 = some i := Option.isSome_iff_exists.1 (by kernel_rfl)
  have hs : i.size = 1 := by
    have : (Tryd.prog.info? 5).map (·.size) = some 1 := by kernel_rfl
    rw [hi] at this; simpa using this
  have := run_append_room_cells (P := Tryd.prog) (wr.alloc (.cells #[v] 5)) 124 ty 5 i (by kernel_rfl) hi b 0 len 73 ⟨wr.heap.size, 0, none⟩ 1 1 [v] (by simp [hs]) (fun j u hj => by
      rw [addr_mid, cell_rowD, rowD_al _ _ _ rfl]
      simpa using hj) (by simpa using hv) h1 (fun j hj => by
      rw [cell_rowD, rowD_alloc_old _ _ hb, Array.getElem?_eq_getElem (by rw [hrow, hs]; simp at hj; omega)]; rfl) (fun j hj => by rw [World.frozen?_alloc_past _ _ _ hb]; exact hf _)
  rw [hs] at this
  simpa using this

set_option maxRecDepth 20000 in
theorem New_any (w : World) :
    Calls Tryd.prog 121 #[] w fun e w' => e = .returned (.pointer (some ⟨w.heap.size, 0, none⟩)) ∧ Owns w w' [(w.heap.size, encHs ⟨iv, List.replicate 64 0, 0⟩)] := by
  go_enter Tryd.func121, Tryd.ntmps121
  go_wp2_with fail
  go_ret
  refine ⟨rfl, ?_⟩
  have h := own_one w (encHs ⟨iv, List.replicate 64 0, 0⟩) 234
  refine Eq.mp (congrArg (fun c => Owns w (w.alloc (.cells c 234)) _) (show encHs ⟨iv, List.replicate 64 0, 0⟩ = _ by kernel_rfl)) h
theorem all_encHs (c : Array Value) (x : Hs) (h : x.Ok) (hc : c.size = 73) : spliceL c 0 (encHs x).toList = encHs x := by rw [spliceL_all _ _ (by rw [Array.length_toList, size_encHs x h, hc])]
theorem whole_encHs (x : Hs) (h : x.Ok) : (encHs x).extract 0 73 = encHs x := by rw [← size_encHs x h]; exact Array.extract_size
set_option maxRecDepth 20000 in
set_option maxHeartbeats 2000000 in
theorem Sum_any' (x : Hs) (m : List Nat) (p : Nat) (w : World) (hx : Rep m x) (hk : Keyed w) (hp : p < w.heap.size) (row : w.rowD p = encHs x) (hlen : m.length < 1152921504606840000) :
    Calls Tryd.prog 123 #[.pointer (some ⟨p, 0, none⟩)] w fun e w' => e = .returned (.agg (encH (sha m))) ∧ Below w.heap.size w w' := by
  have hok := hx.ok
  have hsz := size_encHs x hok
  go_enter Tryd.func123, Tryd.ntmps123
  have hwh := whole_encHs x hok
  have hst := fun W g => rSHs W g 0 x hsz
  have hz : ∀ c, c.size = 73 → spliceL c 0 (encHs x).toList = encHs x := fun c hc => all_encHs c x hok hc
  have hmk : ∀ W : World, (Instr.makeSlice 124 (.int .i64 1) (.int .i64 73)).run Tryd.prog W = .ok (.slice (some ⟨W.heap.size, 0, none⟩) 1 73) (W.alloc (.cells (encB (List.replicate 73 0)) 5)) := fun W => by kernel_rfl
  go_wp2_with fail
  generalize hW : World.alloc (World.alloc (World.alloc w _) _) _ = W
  have own : Owns w W [(w.heap.size, encB (List.replicate 32 0)), (w.heap.size + 1, encHs x), (w.heap.size + 2, encB ([128] ++ List.replicate 72 0))] := hW ▸ own_three w _ _ _ _ _ _
  clear hW hmk hst hz hwh
  have hset0 : ∀ j, j < 72 → ([128] ++ List.replicate 72 0 : List Nat).set (1 + j) 0 = [128] ++ List.replicate 72 0 := fun j hj => by
    have : ∀ j : Fin 72, ([128] ++ List.replicate 72 0 : List Nat).set (1 + j.val) 0 = [128] ++ List.replicate 72 0 := by decide
    exact this ⟨j, hj⟩
  have hl0 : ([128] ++ List.replicate 72 0 : List Nat).length = 73 := by decide
  have e2 : w.heap.size + 1 + 1 = w.heap.size + 2 := rfl
  simp only [e2]
  have hpn := hx.n
  have g72 := hs_n x hok
  rw [hpn] at g72
  have g72v : ∀ h : 72 < (encHs x).size, (encHs x)[72]'h = .int .u64 (m.length : Nat) := fun h => Option.some.inj ((Array.getElem?_eq_getElem h).symm.trans g72)
  have hL0 : ∀ z, z < 64 → ([128] ++ List.replicate 72 0 : List Nat) = ([128] ++ List.replicate z 0) ++ List.replicate (72 - z) 0 := fun z hz => by
    rw [List.append_assoc, List.replicate_append_replicate]; congr 2; omega
  generalize ([128] ++ List.replicate 72 0 : List Nat) = L0 at *
  obtain ⟨z, hz⟩ : ∃ z, z = (119 - m.length % 64) % 64 := ⟨_, rfl⟩
  generalize hN : m.length = N at *
  have hz' : ∀ _ : Unit, z = (119 - N % 64) % 64 := fun _ => hz
  have hz64 : z < 64 := by omega
  clear hpn hz
  go_loopw [4] (fun i wr => ∃ j : Nat, j ≤ z ∧ i = .slice (some ⟨w.heap.size + 2, 0, none⟩) (1 + j) 73 ∧ Owns w wr [(w.heap.size, encB (List.replicate 32 0)), (w.heap.size + 1, encHs x), (w.heap.size + 2, encB L0)])
    (fun i _ => match i with | .slice _ n _ => 100 - n | _ => 0)
  case atStart => exact ⟨0, Nat.zero_le _, rfl, own⟩
  case round =>
    obtain ⟨j, hj, rfl, own1⟩ := hrel
    obtain ⟨-, lt2, row2, fr2⟩ := own1.at3
    have hrow : wr.rowD p = encHs x := (rowD_congr (own1.below.block p hp)).trans row
    have hpr : p < wr.heap.size := Nat.lt_of_lt_of_le hp own1.below.size
    by_cases hend : j = z
    · have hzz := hz' ()
      have hcond : ((N : Int) + (1 + (j : Int))) % 64 = 56 := by omega
      subst hend
      clear hzz
      go_wp2_with fail
      rw [hL0 j hz64] at own1 row2
      have hNh : ∀ _ : Unit, m.length = N := fun _ => hN
      clear hset0 hl0 hcond lt2 fr2 row2 own hL0 hN
      have hl1 : ([128] ++ List.replicate j 0 : List Nat).length = 1 + j := by simp; omega
      have hpad : ∀ _ : Unit, pad N = ([128] ++ List.replicate j 0) ++ [N * 8 / 72057594037927936 % 256, N * 8 / 281474976710656 % 256, N * 8 / 1099511627776 % 256, N * 8 / 4294967296 % 256, N * 8 / 16777216 % 256, N * 8 / 65536 % 256, N * 8 / 256 % 256, N * 8 % 256] := fun _ => by
        unfold pad; rw [← hz' ()]; simp [List.range, List.range.loop]
      have ho1 := own1
      generalize ([128] ++ List.replicate j 0 : List Nat) = l0 at hl1 hpad own1
      clear ho1
      have hlen0 := hl1
      replace own1 : Owns w wr [(w.heap.size, encB (List.replicate 32 0)), (w.heap.size + 1, encHs x), (w.heap.size + 2, encB (l0 ++ List.replicate (72 - j - 0) 0))] := own1
      refine wp_loop_rounds 9 ?_
      obtain ⟨-, lt2, row2, fr2⟩ := own1.at3
      rw [rounds_succ]; go_wp2_with (first | (at_builtin; refine wpList_app rfl _ _ _ rfl _ _ _ _ rfl rfl (fun ty => app1 wr (w.heap.size + 2) (1 + j) _ rfl (by omega) (by rw [row2]; simp [hlen0]; omega) lt2 fr2 ty) ?_))
      generalize hWi : World.alloc (World.setCells wr _ _ _) _ = wr1
      obtain ⟨l1, hle1⟩ : ∃ l, l = l0 ++ [N * 8 / 72057594037927936 % 256] := ⟨_, rfl⟩
      have hlen1 : l1.length = 1 + j + 1 := by rw [hle1]; simp [hlen0]
      have own2 : Owns w wr1 [(w.heap.size, encB (List.replicate 32 0)), (w.heap.size + 1, encHs x), (w.heap.size + 2, encB (l1 ++ List.replicate (71 - j - 0) 0))] := by
        have hs := set_pad l0 (71 - j - 0) (N * 8 / 72057594037927936 % 256)
        rw [show 71 - j - 0 + 1 = 72 - j - 0 by omega, hlen0, ← hle1] at hs
        rw [← hWi]
        refine ((Owns.setV (v' := .int .u8 ((N * 8 / 72057594037927936 % 256 : Nat) : Int)) own1 (w.heap.size + 2) (1 + j) (by omega) (congrArg _ (by omega)) ?_).alloc _ _).sub (fun p hp => List.mem_append_left _ hp)
        simp only [List.map_cons, List.map_nil, if_neg (show ¬ w.heap.size = w.heap.size + 2 by omega), if_neg (show ¬ w.heap.size + 1 = w.heap.size + 2 by omega), if_true, set_encB]
        rw [show (72 - j - 0) = 72 - j - 0 from rfl, hs]
      replace own2 : Owns w wr1 [(w.heap.size, encB (List.replicate 32 0)), (w.heap.size + 1, encHs x), (w.heap.size + 2, encB (l1 ++ List.replicate (72 - j - 1) 0))] := by
        rw [show 72 - j - 1 = 71 - j - 0 by omega]; exact own2
      have hlh1 : ∀ _ : Unit, l1 = l0 ++ [N * 8 / 72057594037927936 % 256] := fun _ => hle1
      clear hWi hle1 lt2 row2 fr2 own1
      obtain ⟨-, lt2, row2, fr2⟩ := own2.at3
      rw [rounds_succ]; go_wp2_with (first | (at_builtin; refine wpList_app rfl _ _ _ rfl _ _ _ _ rfl rfl (fun ty => app1 wr1 (w.heap.size + 2) (1 + j + 1) _ rfl (by omega) (by rw [row2]; simp [hlen1]; omega) lt2 fr2 ty) ?_))
      generalize hWi : World.alloc (World.setCells wr1 _ _ _) _ = wr2
      obtain ⟨l2, hle2⟩ : ∃ l, l = l1 ++ [N * 8 / 281474976710656 % 256] := ⟨_, rfl⟩
      have hlen2 : l2.length = 1 + j + 1 + 1 := by rw [hle2]; simp [hlen1]
      have own3 : Owns w wr2 [(w.heap.size, encB (List.replicate 32 0)), (w.heap.size + 1, encHs x), (w.heap.size + 2, encB (l2 ++ List.replicate (71 - j - 1) 0))] := by
        have hs := set_pad l1 (71 - j - 1) (N * 8 / 281474976710656 % 256)
        rw [show 71 - j - 1 + 1 = 72 - j - 1 by omega, hlen1, ← hle2] at hs
        rw [← hWi]
        refine ((Owns.setV (v' := .int .u8 ((N * 8 / 281474976710656 % 256 : Nat) : Int)) own2 (w.heap.size + 2) (1 + j + 1) (by omega) (congrArg _ (by omega)) ?_).alloc _ _).sub (fun p hp => List.mem_append_left _ hp)
        simp only [List.map_cons, List.map_nil, if_neg (show ¬ w.heap.size = w.heap.size + 2 by omega), if_neg (show ¬ w.heap.size + 1 = w.heap.size + 2 by omega), if_true, set_encB]
        rw [show (72 - j - 1) = 72 - j - 1 from rfl, hs]
      replace own3 : Owns w wr2 [(w.heap.size, encB (List.replicate 32 0)), (w.heap.size + 1, encHs x), (w.heap.size + 2, encB (l2 ++ List.replicate (72 - j - 2) 0))] := by
        rw [show 72 - j - 2 = 71 - j - 1 by omega]; exact own3
      have hlh2 : ∀ _ : Unit, l2 = l1 ++ [N * 8 / 281474976710656 % 256] := fun _ => hle2
      clear hWi hle2 lt2 row2 fr2 own2
      obtain ⟨-, lt2, row2, fr2⟩ := own3.at3
      rw [rounds_succ]; go_wp2_with (first | (at_builtin; refine wpList_app rfl _ _ _ rfl _ _ _ _ rfl rfl (fun ty => app1 wr2 (w.heap.size + 2) (1 + j + 1 + 1) _ rfl (by omega) (by rw [row2]; simp [hlen2]; omega) lt2 fr2 ty) ?_))
      generalize hWi : World.alloc (World.setCells wr2 _ _ _) _ = wr3
      obtain ⟨l3, hle3⟩ : ∃ l, l = l2 ++ [N * 8 / 1099511627776 % 256] := ⟨_, rfl⟩
      have hlen3 : l3.length = 1 + j + 1 + 1 + 1 := by rw [hle3]; simp [hlen2]
      have own4 : Owns w wr3 [(w.heap.size, encB (List.replicate 32 0)), (w.heap.size + 1, encHs x), (w.heap.size + 2, encB (l3 ++ List.replicate (71 - j - 2) 0))] := by
        have hs := set_pad l2 (71 - j - 2) (N * 8 / 1099511627776 % 256)
        rw [show 71 - j - 2 + 1 = 72 - j - 2 by omega, hlen2, ← hle3] at hs
        rw [← hWi]
        refine ((Owns.setV (v' := .int .u8 ((N * 8 / 1099511627776 % 256 : Nat) : Int)) own3 (w.heap.size + 2) (1 + j + 1 + 1) (by omega) (congrArg _ (by omega)) ?_).alloc _ _).sub (fun p hp => List.mem_append_left _ hp)
        simp only [List.map_cons, List.map_nil, if_neg (show ¬ w.heap.size = w.heap.size + 2 by omega), if_neg (show ¬ w.heap.size + 1 = w.heap.size + 2 by omega), if_true, set_encB]
        rw [show (72 - j - 2) = 72 - j - 2 from rfl, hs]
      replace own4 : Owns w wr3 [(w.heap.size, encB (List.replicate 32 0)), (w.heap.size + 1, encHs x), (w.heap.size + 2, encB (l3 ++ List.replicate (72 - j - 3) 0))] := by
        rw [show 72 - j - 3 = 71 - j - 2 by omega]; exact own4
      have hlh3 : ∀ _ : Unit, l3 = l2 ++ [N * 8 / 1099511627776 % 256] := fun _ => hle3
      clear hWi hle3 lt2 row2 fr2 own3
      obtain ⟨-, lt2, row2, fr2⟩ := own4.at3
      rw [rounds_succ]; go_wp2_with (first | (at_builtin; refine wpList_app rfl _ _ _ rfl _ _ _ _ rfl rfl (fun ty => app1 wr3 (w.heap.size + 2) (1 + j + 1 + 1 + 1) _ rfl (by omega) (by rw [row2]; simp [hlen3]; omega) lt2 fr2 ty) ?_))
      generalize hWi : World.alloc (World.setCells wr3 _ _ _) _ = wr4
      obtain ⟨l4, hle4⟩ : ∃ l, l = l3 ++ [N * 8 / 4294967296 % 256] := ⟨_, rfl⟩
      have hlen4 : l4.length = 1 + j + 1 + 1 + 1 + 1 := by rw [hle4]; simp [hlen3]
      have own5 : Owns w wr4 [(w.heap.size, encB (List.replicate 32 0)), (w.heap.size + 1, encHs x), (w.heap.size + 2, encB (l4 ++ List.replicate (71 - j - 3) 0))] := by
        have hs := set_pad l3 (71 - j - 3) (N * 8 / 4294967296 % 256)
        rw [show 71 - j - 3 + 1 = 72 - j - 3 by omega, hlen3, ← hle4] at hs
        rw [← hWi]
        refine ((Owns.setV (v' := .int .u8 ((N * 8 / 4294967296 % 256 : Nat) : Int)) own4 (w.heap.size + 2) (1 + j + 1 + 1 + 1) (by omega) (congrArg _ (by omega)) ?_).alloc _ _).sub (fun p hp => List.mem_append_left _ hp)
        simp only [List.map_cons, List.map_nil, if_neg (show ¬ w.heap.size = w.heap.size + 2 by omega), if_neg (show ¬ w.heap.size + 1 = w.heap.size + 2 by omega), if_true, set_encB]
        rw [show (72 - j - 3) = 72 - j - 3 from rfl, hs]
      replace own5 : Owns w wr4 [(w.heap.size, encB (List.replicate 32 0)), (w.heap.size + 1, encHs x), (w.heap.size + 2, encB (l4 ++ List.replicate (72 - j - 4) 0))] := by
        rw [show 72 - j - 4 = 71 - j - 3 by omega]; exact own5
      have hlh4 : ∀ _ : Unit, l4 = l3 ++ [N * 8 / 4294967296 % 256] := fun _ => hle4
      clear hWi hle4 lt2 row2 fr2 own4
      obtain ⟨-, lt2, row2, fr2⟩ := own5.at3
      rw [rounds_succ]; go_wp2_with (first | (at_builtin; refine wpList_app rfl _ _ _ rfl _ _ _ _ rfl rfl (fun ty => app1 wr4 (w.heap.size + 2) (1 + j + 1 + 1 + 1 + 1) _ rfl (by omega) (by rw [row2]; simp [hlen4]; omega) lt2 fr2 ty) ?_))
      generalize hWi : World.alloc (World.setCells wr4 _ _ _) _ = wr5
      obtain ⟨l5, hle5⟩ : ∃ l, l = l4 ++ [N * 8 / 16777216 % 256] := ⟨_, rfl⟩
      have hlen5 : l5.length = 1 + j + 1 + 1 + 1 + 1 + 1 := by rw [hle5]; simp [hlen4]
      have own6 : Owns w wr5 [(w.heap.size, encB (List.replicate 32 0)), (w.heap.size + 1, encHs x), (w.heap.size + 2, encB (l5 ++ List.replicate (71 - j - 4) 0))] := by
        have hs := set_pad l4 (71 - j - 4) (N * 8 / 16777216 % 256)
        rw [show 71 - j - 4 + 1 = 72 - j - 4 by omega, hlen4, ← hle5] at hs
        rw [← hWi]
        refine ((Owns.setV (v' := .int .u8 ((N * 8 / 16777216 % 256 : Nat) : Int)) own5 (w.heap.size + 2) (1 + j + 1 + 1 + 1 + 1) (by omega) (congrArg _ (by omega)) ?_).alloc _ _).sub (fun p hp => List.mem_append_left _ hp)
        simp only [List.map_cons, List.map_nil, if_neg (show ¬ w.heap.size = w.heap.size + 2 by omega), if_neg (show ¬ w.heap.size + 1 = w.heap.size + 2 by omega), if_true, set_encB]
        rw [show (72 - j - 4) = 72 - j - 4 from rfl, hs]
      replace own6 : Owns w wr5 [(w.heap.size, encB (List.replicate 32 0)), (w.heap.size + 1, encHs x), (w.heap.size + 2, encB (l5 ++ List.replicate (72 - j - 5) 0))] := by
        rw [show 72 - j - 5 = 71 - j - 4 by omega]; exact own6
      have hlh5 : ∀ _ : Unit, l5 = l4 ++ [N * 8 / 16777216 % 256] := fun _ => hle5
      clear hWi hle5 lt2 row2 fr2 own5
      obtain ⟨-, lt2, row2, fr2⟩ := own6.at3
      rw [rounds_succ]; go_wp2_with (first | (at_builtin; refine wpList_app rfl _ _ _ rfl _ _ _ _ rfl rfl (fun ty => app1 wr5 (w.heap.size + 2) (1 + j + 1 + 1 + 1 + 1 + 1) _ rfl (by omega) (by rw [row2]; simp [hlen5]; omega) lt2 fr2 ty) ?_))
      generalize hWi : World.alloc (World.setCells wr5 _ _ _) _ = wr6
      obtain ⟨l6, hle6⟩ : ∃ l, l = l5 ++ [N * 8 / 65536 % 256] := ⟨_, rfl⟩
      have hlen6 : l6.length = 1 + j + 1 + 1 + 1 + 1 + 1 + 1 := by rw [hle6]; simp [hlen5]
      have own7 : Owns w wr6 [(w.heap.size, encB (List.replicate 32 0)), (w.heap.size + 1, encHs x), (w.heap.size + 2, encB (l6 ++ List.replicate (71 - j - 5) 0))] := by
        have hs := set_pad l5 (71 - j - 5) (N * 8 / 65536 % 256)
        rw [show 71 - j - 5 + 1 = 72 - j - 5 by omega, hlen5, ← hle6] at hs
        rw [← hWi]
        refine ((Owns.setV (v' := .int .u8 ((N * 8 / 65536 % 256 : Nat) : Int)) own6 (w.heap.size + 2) (1 + j + 1 + 1 + 1 + 1 + 1) (by omega) (congrArg _ (by omega)) ?_).alloc _ _).sub (fun p hp => List.mem_append_left _ hp)
        simp only [List.map_cons, List.map_nil, if_neg (show ¬ w.heap.size = w.heap.size + 2 by omega), if_neg (show ¬ w.heap.size + 1 = w.heap.size + 2 by omega), if_true, set_encB]
        rw [show (72 - j - 5) = 72 - j - 5 from rfl, hs]
      replace own7 : Owns w wr6 [(w.heap.size, encB (List.replicate 32 0)), (w.heap.size + 1, encHs x), (w.heap.size + 2, encB (l6 ++ List.replicate (72 - j - 6) 0))] := by
        rw [show 72 - j - 6 = 71 - j - 5 by omega]; exact own7
      have hlh6 : ∀ _ : Unit, l6 = l5 ++ [N * 8 / 65536 % 256] := fun _ => hle6
      clear hWi hle6 lt2 row2 fr2 own6
      obtain ⟨-, lt2, row2, fr2⟩ := own7.at3
      rw [rounds_succ]; go_wp2_with (first | (at_builtin; refine wpList_app rfl _ _ _ rfl _ _ _ _ rfl rfl (fun ty => app1 wr6 (w.heap.size + 2) (1 + j + 1 + 1 + 1 + 1 + 1 + 1) _ rfl (by omega) (by rw [row2]; simp [hlen6]; omega) lt2 fr2 ty) ?_))
      generalize hWi : World.alloc (World.setCells wr6 _ _ _) _ = wr7
      obtain ⟨l7, hle7⟩ : ∃ l, l = l6 ++ [N * 8 / 256 % 256] := ⟨_, rfl⟩
      have hlen7 : l7.length = 1 + j + 1 + 1 + 1 + 1 + 1 + 1 + 1 := by rw [hle7]; simp [hlen6]
      have own8 : Owns w wr7 [(w.heap.size, encB (List.replicate 32 0)), (w.heap.size + 1, encHs x), (w.heap.size + 2, encB (l7 ++ List.replicate (71 - j - 6) 0))] := by
        have hs := set_pad l6 (71 - j - 6) (N * 8 / 256 % 256)
        rw [show 71 - j - 6 + 1 = 72 - j - 6 by omega, hlen6, ← hle7] at hs
        rw [← hWi]
        refine ((Owns.setV (v' := .int .u8 ((N * 8 / 256 % 256 : Nat) : Int)) own7 (w.heap.size + 2) (1 + j + 1 + 1 + 1 + 1 + 1 + 1) (by omega) (congrArg _ (by omega)) ?_).alloc _ _).sub (fun p hp => List.mem_append_left _ hp)
        simp only [List.map_cons, List.map_nil, if_neg (show ¬ w.heap.size = w.heap.size + 2 by omega), if_neg (show ¬ w.heap.size + 1 = w.heap.size + 2 by omega), if_true, set_encB]
        rw [show (72 - j - 6) = 72 - j - 6 from rfl, hs]
      replace own8 : Owns w wr7 [(w.heap.size, encB (List.replicate 32 0)), (w.heap.size + 1, encHs x), (w.heap.size + 2, encB (l7 ++ List.replicate (72 - j - 7) 0))] := by
        rw [show 72 - j - 7 = 71 - j - 6 by omega]; exact own8
      have hlh7 : ∀ _ : Unit, l7 = l6 ++ [N * 8 / 256 % 256] := fun _ => hle7
      clear hWi hle7 lt2 row2 fr2 own7
      obtain ⟨-, lt2, row2, fr2⟩ := own8.at3
      rw [rounds_succ]; go_wp2_with (first | (at_builtin; refine wpList_app rfl _ _ _ rfl _ _ _ _ rfl rfl (fun ty => app1 wr7 (w.heap.size + 2) (1 + j + 1 + 1 + 1 + 1 + 1 + 1 + 1) _ rfl (by omega) (by rw [row2]; simp [hlen7]; omega) lt2 fr2 ty) ?_))
      generalize hWi : World.alloc (World.setCells wr7 _ _ _) _ = wr8
      obtain ⟨l8, hle8⟩ : ∃ l, l = l7 ++ [N * 8 % 256] := ⟨_, rfl⟩
      have hlen8 : l8.length = 1 + j + 1 + 1 + 1 + 1 + 1 + 1 + 1 + 1 := by rw [hle8]; simp [hlen7]
      have own9 : Owns w wr8 [(w.heap.size, encB (List.replicate 32 0)), (w.heap.size + 1, encHs x), (w.heap.size + 2, encB (l8 ++ List.replicate (71 - j - 7) 0))] := by
        have hs := set_pad l7 (71 - j - 7) (N * 8 % 256)
        rw [show 71 - j - 7 + 1 = 72 - j - 7 by omega, hlen7, ← hle8] at hs
        rw [← hWi]
        refine ((Owns.setV (v' := .int .u8 ((N * 8 % 256 : Nat) : Int)) own8 (w.heap.size + 2) (1 + j + 1 + 1 + 1 + 1 + 1 + 1 + 1) (by omega) (congrArg _ (by omega)) ?_).alloc _ _).sub (fun p hp => List.mem_append_left _ hp)
        simp only [List.map_cons, List.map_nil, if_neg (show ¬ w.heap.size = w.heap.size + 2 by omega), if_neg (show ¬ w.heap.size + 1 = w.heap.size + 2 by omega), if_true, set_encB]
        rw [show (72 - j - 7) = 72 - j - 7 from rfl, hs]
      replace own9 : Owns w wr8 [(w.heap.size, encB (List.replicate 32 0)), (w.heap.size + 1, encHs x), (w.heap.size + 2, encB (l8 ++ List.replicate (72 - j - 8) 0))] := by
        rw [show 72 - j - 8 = 71 - j - 7 by omega]; exact own9
      have hlh8 : ∀ _ : Unit, l8 = l7 ++ [N * 8 % 256] := fun _ => hle8
      clear hWi hle8 lt2 row2 fr2 own8
      rw [rounds_succ]; go_wp2_with fail
      have hp8 : l8 = pad N := by
        rw [hpad (), hlh8 (), hlh7 (), hlh6 (), hlh5 (), hlh4 (), hlh3 (), hlh2 (), hlh1 ()]
        simp
      rw [hp8] at own9 hlen8
      have hNm := hNh ()
      have hkB : kg < w.heap.size := hk.lt
      obtain ⟨-, ltA, rowA, frA⟩ := own9.at2
      obtain ⟨-, ltP, rowP, frP⟩ := own9.at3
      have hWr := Write_any x m (pad N) (w.heap.size + 1) (w.heap.size + 2) 0 73 (some ⟨w.heap.size + 2, 0, none⟩) wr8 hx (by omega) (hk.below own9.below) ltA (by omega) rowA frA (lt_pad N)
        (Or.inr ⟨rfl, by omega, ltP, by omega, by rw [rowP]; exact prefix_encB _ _⟩)
      rw [hlen8] at hWr
      refine hWr.mono ?_
      rintro e w5 ⟨rfl, hkp5, x', hrep5, row5⟩
      have own10 := own9.kept (by omega) ltA hkp5 row5
      simp only [List.map_cons, List.map_nil, if_neg (show ¬ w.heap.size = w.heap.size + 1 by omega), if_neg (show ¬ w.heap.size + 2 = w.heap.size + 1 by omega), if_true] at own10
      have hsha : ∀ _ : Unit, (sha m).l = outB x'.s := fun _ => by
        show outB (mixes ((m ++ pad m.length).length / 64) iv (m ++ pad m.length)) = _
        rw [hrep5.s, hNm]
      have hok5 := hrep5.ok
      clear hWr hkp5 row5 own9 ltA rowA frA ltP rowP frP hlh1 hlh2 hlh3 hlh4 hlh5 hlh6 hlh7 hlh8 hpad hp8 hrow hpr hz' hlen0 hlen1 hlen2 hlen3 hlen4 hlen5 hlen6 hlen7 hlen8 hNm g72 g72v hNh
      go_wp2_with fail
      have own11 := own10.alloc (encB (List.replicate 32 0)) 23
      have hq : w.heap.size + 2 < w5.heap.size := own10.at3.2.1
      simp only [List.cons_append, List.nil_append] at own11
      show Code.wp _ _ _ _ (World.alloc w5 (.cells (encB (List.replicate 32 0)) 23))
      generalize World.alloc w5 _ = w6 at own11 ⊢
      generalize w5.heap.size = q at own11 hq ⊢
      have hlo : (outB x'.s).length = 32 := by rw [length_outB, hok5.sl]
      clear own10 hrep5 hx hk row
      go_loopw [48] (fun i wr => ∃ t : Nat, t ≤ 32 ∧ i = .int .i64 t ∧ Owns w wr [(w.heap.size, encB (List.replicate 32 0)), (w.heap.size + 1, encHs x'), (w.heap.size + 2, encB (pad N ++ List.replicate (72 - j - 8) 0)), (q, encB ((outB x'.s).take t ++ List.replicate (32 - t) 0))])
        (fun i _ => 32 - (intOf i).toNat)
      case atStart => exact ⟨0, Nat.zero_le _, rfl, own11⟩
      case round =>
        obtain ⟨t, ht, rfl, own12⟩ := hrel
        obtain ⟨-, lt1, row1, fr1⟩ := own12.at1
        obtain ⟨-, lt2, row2, fr2⟩ := own12.at2
        obtain ⟨-, lt4, row4, fr4⟩ := own12.at4
        by_cases hend : t = 32
        · subst hend
          simp only [Int.cast_ofNat_Int]
          have hrow4 : wr.rowD q = encH (sha m) := by
            rw [row4, List.take_of_length_le (by omega), show List.replicate (32 - 32) 0 = ([] : List Nat) from rfl, List.append_nil]
            unfold encH encHL
            rw [hsha ()]
            rfl
          have hwh : (encH (sha m)).extract 0 32 = encH (sha m) := by rw [← size_encH (sha m)]; exact Array.extract_size
          clear row4
          go_wp2_with fail
          exact ret_cell rfl rfl rfl (rWH _ _ (sha m) (by rw [rowD_setCells_same, row1, spliceL_all _ _ (by rw [Array.length_toList, size_encH]; simp)])) ⟨rfl, below_setCells _ (by omega) _ _ _ _ own12.below⟩
        · obtain ⟨a, b, hab, hb, ha⟩ : ∃ a b, t = 4 * a + b ∧ b < 4 ∧ a < 8 := ⟨t / 4, t % 4, by omega, by omega, by omega⟩
          subst hab
          have g1 := hs_s x' hok5 a ha
          have hlen4 : ((outB x'.s).take (4 * a + b) ++ List.replicate (32 - (4 * a + b)) 0).length = 32 := by simp [hlo]; omega
          have hsz5 := size_encHs x' hok5
          have lxs := getD_lt hok5.sb a (by omega)
          have hgv0 := outB_get x'.s a b (by rw [hok5.sl]; omega) hb
          generalize x'.s.getD a 0 = sv at g1 lxs hgv0
          have g4 := get_encB _ (4 * a + b) (show 4 * a + b < ((outB x'.s).take (4 * a + b) ++ List.replicate (32 - (4 * a + b)) 0).length by omega)
          rcases (show b = 0 ∨ b = 1 ∨ b = 2 ∨ b = 3 by omega) with rfl | rfl | rfl | rfl
          · simp only [Nat.add_zero] at own12 hlen4 g4 row4 hend ht ⊢
            have hdv : (4 * (a : Int)) / 4 = (a : Int) := by omega
            have hmd : (4 * (a : Int)) % 4 = 0 := by omega
            have hgv : (outB x'.s).getD (4 * a) 0 = sv / 16777216 % 256 := by simpa using hgv0
            have hs := set_pad ((outB x'.s).take (4 * a)) (31 - (4 * a)) (sv / 16777216 % 256)
            rw [List.length_take, hlo, show min (4 * a) 32 = 4 * a by omega, show 31 - (4 * a) + 1 = 32 - (4 * a) by omega] at hs
            have htk : (outB x'.s).take (4 * a) ++ [sv / 16777216 % 256] = (outB x'.s).take (4 * a + 1) := by
              rw [← hgv, List.take_succ_eq_append_getElem (show 4 * a < (outB x'.s).length by omega), List.getD_eq_getElem?_getD, List.getElem?_eq_getElem (by omega)]; rfl
            rw [htk] at hs
            generalize (outB x'.s).take (4 * a) ++ List.replicate (32 - (4 * a)) 0 = LL at hs own12 row4 g4 hlen4
            have hs2 : ∀ _ : Unit, _ := fun _ => hs
            clear hs htk hgv hgv0
            go_wp2_with fail
            refine ⟨⟨4 * a + 1, by omega, by go_num, ?_⟩, by simp [intOf]; omega⟩
            refine Owns.setV (v' := .int .u8 ((sv / 16777216 % 256 : Nat) : Int)) own12 q (4 * a) (by omega) (congrArg _ (by omega)) ?_
            simp only [List.map_cons, List.map_nil, if_neg (show ¬ w.heap.size = q by omega), if_neg (show ¬ w.heap.size + 1 = q by omega), if_neg (show ¬ w.heap.size + 2 = q by omega), if_true, set_encB]
            rw [hs2 (), show 32 - (4 * a + 1) = 31 - (4 * a) by omega]
          · have hdv : (4 * (a : Int) + 1) / 4 = (a : Int) := by omega
            have hmd : (4 * (a : Int) + 1) % 4 = 1 := by omega
            have hdvN : (4 * a + 1) / 4 = a := by omega
            have hmdN : (4 * a + 1) % 4 = 1 := by omega
            have hdvC : ((4 * a + 1 : Nat) : Int) / 4 = (a : Int) := by omega
            have hmdC : ((4 * a + 1 : Nat) : Int) % 4 = 1 := by omega
            have hgv : (outB x'.s).getD (4 * a + 1) 0 = sv / 65536 % 256 := by simpa using hgv0
            have hs := set_pad ((outB x'.s).take (4 * a + 1)) (31 - (4 * a + 1)) (sv / 65536 % 256)
            rw [List.length_take, hlo, show min (4 * a + 1) 32 = 4 * a + 1 by omega, show 31 - (4 * a + 1) + 1 = 32 - (4 * a + 1) by omega] at hs
            have htk : (outB x'.s).take (4 * a + 1) ++ [sv / 65536 % 256] = (outB x'.s).take (4 * a + 1 + 1) := by
              rw [← hgv, List.take_succ_eq_append_getElem (show 4 * a + 1 < (outB x'.s).length by omega), List.getD_eq_getElem?_getD, List.getElem?_eq_getElem (by omega)]; rfl
            rw [htk] at hs
            generalize (outB x'.s).take (4 * a + 1) ++ List.replicate (32 - (4 * a + 1)) 0 = LL at hs own12 row4 g4 hlen4
            have hs2 : ∀ _ : Unit, _ := fun _ => hs
            clear hs htk hgv hgv0
            go_wp2_with fail
            refine ⟨⟨4 * a + 1 + 1, by omega, by go_num, ?_⟩, by simp [intOf]; omega⟩
            refine Owns.setV (v' := .int .u8 ((sv / 65536 % 256 : Nat) : Int)) own12 q (4 * a + 1) (by omega) (congrArg _ (by omega)) ?_
            simp only [List.map_cons, List.map_nil, if_neg (show ¬ w.heap.size = q by omega), if_neg (show ¬ w.heap.size + 1 = q by omega), if_neg (show ¬ w.heap.size + 2 = q by omega), if_true, set_encB]
            rw [hs2 (), show 32 - (4 * a + 1 + 1) = 31 - (4 * a + 1) by omega]
          · have hdv : (4 * (a : Int) + 2) / 4 = (a : Int) := by omega
            have hmd : (4 * (a : Int) + 2) % 4 = 2 := by omega
            have hdvN : (4 * a + 2) / 4 = a := by omega
            have hmdN : (4 * a + 2) % 4 = 2 := by omega
            have hdvC : ((4 * a + 2 : Nat) : Int) / 4 = (a : Int) := by omega
            have hmdC : ((4 * a + 2 : Nat) : Int) % 4 = 2 := by omega
            have hgv : (outB x'.s).getD (4 * a + 2) 0 = sv / 256 % 256 := by simpa using hgv0
            have hs := set_pad ((outB x'.s).take (4 * a + 2)) (31 - (4 * a + 2)) (sv / 256 % 256)
            rw [List.length_take, hlo, show min (4 * a + 2) 32 = 4 * a + 2 by omega, show 31 - (4 * a + 2) + 1 = 32 - (4 * a + 2) by omega] at hs
            have htk : (outB x'.s).take (4 * a + 2) ++ [sv / 256 % 256] = (outB x'.s).take (4 * a + 2 + 1) := by
              rw [← hgv, List.take_succ_eq_append_getElem (show 4 * a + 2 < (outB x'.s).length by omega), List.getD_eq_getElem?_getD, List.getElem?_eq_getElem (by omega)]; rfl
            rw [htk] at hs
            generalize (outB x'.s).take (4 * a + 2) ++ List.replicate (32 - (4 * a + 2)) 0 = LL at hs own12 row4 g4 hlen4
            have hs2 : ∀ _ : Unit, _ := fun _ => hs
            clear hs htk hgv hgv0
            go_wp2_with fail
            refine ⟨⟨4 * a + 2 + 1, by omega, by go_num, ?_⟩, by simp [intOf]; omega⟩
            refine Owns.setV (v' := .int .u8 ((sv / 256 % 256 : Nat) : Int)) own12 q (4 * a + 2) (by omega) (congrArg _ (by omega)) ?_
            simp only [List.map_cons, List.map_nil, if_neg (show ¬ w.heap.size = q by omega), if_neg (show ¬ w.heap.size + 1 = q by omega), if_neg (show ¬ w.heap.size + 2 = q by omega), if_true, set_encB]
            rw [hs2 (), show 32 - (4 * a + 2 + 1) = 31 - (4 * a + 2) by omega]
          · have hdv : (4 * (a : Int) + 3) / 4 = (a : Int) := by omega
            have hmd : (4 * (a : Int) + 3) % 4 = 3 := by omega
            have hdvN : (4 * a + 3) / 4 = a := by omega
            have hmdN : (4 * a + 3) % 4 = 3 := by omega
            have hdvC : ((4 * a + 3 : Nat) : Int) / 4 = (a : Int) := by omega
            have hmdC : ((4 * a + 3 : Nat) : Int) % 4 = 3 := by omega
            have hgv : (outB x'.s).getD (4 * a + 3) 0 = sv % 256 := by simpa using hgv0
            have hs := set_pad ((outB x'.s).take (4 * a + 3)) (31 - (4 * a + 3)) (sv % 256)
            rw [List.length_take, hlo, show min (4 * a + 3) 32 = 4 * a + 3 by omega, show 31 - (4 * a + 3) + 1 = 32 - (4 * a + 3) by omega] at hs
            have htk : (outB x'.s).take (4 * a + 3) ++ [sv % 256] = (outB x'.s).take (4 * a + 3 + 1) := by
              rw [← hgv, List.take_succ_eq_append_getElem (show 4 * a + 3 < (outB x'.s).length by omega), List.getD_eq_getElem?_getD, List.getElem?_eq_getElem (by omega)]; rfl
            rw [htk] at hs
            generalize (outB x'.s).take (4 * a + 3) ++ List.replicate (32 - (4 * a + 3)) 0 = LL at hs own12 row4 g4 hlen4
            have hs2 : ∀ _ : Unit, _ := fun _ => hs
            clear hs htk hgv hgv0
            go_wp2_with fail
            refine ⟨⟨4 * a + 3 + 1, by omega, by go_num, ?_⟩, by simp [intOf]; omega⟩
            refine Owns.setV (v' := .int .u8 ((sv % 256 : Nat) : Int)) own12 q (4 * a + 3) (by omega) (congrArg _ (by omega)) ?_
            simp only [List.map_cons, List.map_nil, if_neg (show ¬ w.heap.size = q by omega), if_neg (show ¬ w.heap.size + 1 = q by omega), if_neg (show ¬ w.heap.size + 2 = q by omega), if_true, set_encB]
            rw [hs2 (), show 32 - (4 * a + 3 + 1) = 31 - (4 * a + 3) by omega]
    · have hcond : ¬ ((N : Int) + (1 + (j : Int))) % 64 = 56 := by have hzz := hz' (); omega
      have happ := fun ty => app1 wr (w.heap.size + 2) (1 + j) (.int .u8 0) rfl (by omega) (by rw [row2]; simpa using hl0) lt2 fr2 ty
      go_wp2_with (first | (at_builtin; refine wpList_app rfl _ _ _ rfl _ _ _ _ rfl rfl happ ?_))
      refine ⟨⟨j + 1, by omega, rfl, ?_⟩, (show 100 - (1 + j + 1) < 100 - (1 + j) by omega)⟩
      have own2 := own1.setCells (w.heap.size + 2) (1 + j) [.int .u8 0] (by omega)
      simp only [List.map_cons, List.map_nil, if_neg (show ¬ w.heap.size = w.heap.size + 2 by omega), if_neg (show ¬ w.heap.size + 1 = w.heap.size + 2 by omega), if_true, show spliceL (encB L0) (1 + j) [Value.int .u8 0] = encB (L0.set (1 + j) 0) from set_encB L0 (1 + j) 0, hset0 j (by omega)] at own2
      exact (own2.alloc _ _).sub (fun p hp => List.mem_append_left _ hp)
end Go.Proofs.YtpoaakdljpdkfaaDoor

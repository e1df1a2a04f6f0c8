/- == AND != ON STRUCTS, AS THE WALKS MEET THEM. -/
import Derived.Test.YtpoaakdljpdkfaaDoorEq
import Derived.Test.YtpoaakdljpdkfaaDoorC15
set_option linter.unusedSimpArgs false
set_option linter.unusedVariables false
namespace Go.Proofs.YtpoaakdljpdkfaaDoor
open Go.RowKit Go.Alm
@[go_sem ↓] theorem eqnH (w : World) (a b : H32) : (Op.equalIn 10000 23 (.agg (encH a)) (.agg (encH b))).run Tryd.prog w = .ok (decide (a = b)) w := eqH 9998 w a b
@[go_sem ↓] theorem eqnDt (w : World) (a b : Dt) : (Op.equalIn 10000 31 (.agg (encDt a)) (.agg (encDt b))).run Tryd.prog w = .ok (decide (a = b)) w := eqDt 9997 w a b
@[go_sem ↓] theorem eqnPr (w : World) (a b : Pr) : (Op.equalIn 10000 33 (.agg (encPr a)) (.agg (encPr b))).run Tryd.prog w = .ok (decide (a = b)) w := eqPr 9996 w a b
@[go_sem ↓] theorem eqnSt (w : World) (a b : St) : (Op.equalIn 10000 35 (.agg (encSt a)) (.agg (encSt b))).run Tryd.prog w = .ok (decide (a = b)) w := eqSt 9995 w a b
@[go_sem ↓] theorem eqnKy (w : World) (a b : Ky) : (Op.equalIn 10000 72 (.agg (encKy a)) (.agg (encKy b))).run Tryd.prog w = .ok (decide (a = b)) w := eqKy 9997 w a b
@[go_sem ↓] theorem eqnRg (w : World) (a b : Rg) : (Op.equalIn 10000 27 (.agg (encRg a)) (.agg (encRg b))).run Tryd.prog w = .ok (decide (a = b)) w := eqRg 9997 w a b
@[go_sem ↓] theorem eqnWn (w : World) (a b : Wn) : (Op.equalIn 10000 29 (.agg (encWn a)) (.agg (encWn b))).run Tryd.prog w = .ok (decide (a = b)) w := eqWn 9996 w a b
end Go.Proofs.YtpoaakdljpdkfaaDoor

/- THE WALK OF epoch.making.lock. -/
set_option linter.unusedSimpArgs false
set_option linter.unusedVariables false
namespace Go.Proofs.YtpoaakdljpdkfaaDoor
open Go.RowKit Go.Alm
/-- the data that are made (behind a pointer), and the block that makes them -/
def encMk (q o : Nat) (b : Eb) : Array Value := (Value.pointer (some ⟨q, o, none⟩) :: encEbL b).toArray
@[simp, go_sem] theorem size_encMk (q o : Nat) (b : Eb) : (encMk q o b).size = 99 := by simp [encMk, len_encEbL]
@[go_sem] theorem mk_ptr (q o : Nat) (b : Eb) : (encMk q o b)[0]? = some (.pointer (some ⟨q, o, none⟩)) := rfl
@[go_sem] theorem g_mk_ptr (q o : Nat) (b : Eb) (h : 0 < (encMk q o b).size) : (encMk q o b)[0]'h = .pointer (some ⟨q, o, none⟩) := rfl
theorem mk_ext (q o : Nat) (b : Eb) (i j : Nat) : (encMk q o b).extract (i + 1) (j + 1) = (encEb b).extract i j := by
  apply Array.toList_inj.1
  simp [encMk, encEb, List.extract_eq_take_drop]
theorem sizMk (w : World) : (zeroValue 164).run Tryd.prog w = .ok (.agg (#[Value.pointer none] ++ encEb eblock0)) w := by kernel_rfl
@[go_sem] theorem mk_prev (q o : Nat) (b : Eb) : (encMk q o b).extract 3 35 = encH b.prev := (mk_ext q o b 2 34).trans (eb_prev b)
@[go_sem] theorem mk_draw (q o : Nat) (b : Eb) : (encMk q o b).extract 67 99 = encH b.draw := (mk_ext q o b 66 98).trans (eb_draw b)
@[go_sem ↓] theorem exBMk (ρ : Operand → Value) (dst : Option Tmp) (ps : Array (Nat × Operand)) (ty : TypeId) (pos : String) (after : Array Edge) (guard : Option (Nat × Bool)) : execOp ρ { dst, op := .build 164 ps, type := ty, pos, after, guard } = buildK 164 (ps.map fun (i, x) => (i, ρ x)) := rfl
@[go_sem] theorem bldMk (q o : Nat) (b : Eb) (w : World) : (buildK 164 #[(0, .pointer (some ⟨q, o, none⟩)), (1, .agg (encEb b))]).run Tryd.prog w = .ok (.value (.agg (encMk q o b))) w := by
  refine (run_buildK 164 (#[Value.pointer none] ++ encEb eblock0) (Tryd.prog.fieldsOf 164) #[(0, 1), (1, 98)] sizMk (by kernel_rfl) (fun _ => by kernel_rfl) _ ?_ w).trans ?_
  · exact ⟨⟨0, 1, rfl, rfl, by simp⟩, ⟨1, 98, rfl, size_encEb _, by simp⟩, trivial⟩
  · simp only [layAll, List.getElem?_toArray, List.getElem?_cons_zero, List.getElem?_cons_succ, Option.getD_some, Value.cells, spliceL]
    rw [spliceL_eq _ _ _ (by simp)]
    congr 3
    apply Array.toList_inj.1
    simp [encMk, encEb, len_encEbL]
theorem lt_image {name : List Nat} {ps : List (List Nat)} (hn : ∀ v ∈ name, v < 256) (hl : name.length < 256) (hp : ps.length < 256) (h : ∀ p ∈ ps, ∀ v ∈ p, v < 256) : ∀ v ∈ image name ps, v < 256 := by
  intro v hv
  unfold image at hv
  simp only [List.mem_append, List.mem_singleton, List.mem_flatMap] at hv
  rcases hv with ((rfl | hv) | rfl) | ⟨p, hp1, hv | hv⟩
  · exact hl
  · exact hn v hv
  · exact hp
  · unfold be at hv
    obtain ⟨i, _, rfl⟩ := List.mem_map.1 hv
    exact Nat.mod_lt _ (by omega)
  · exact h p hp1 v hv
def seedS : ByteArray := ⟨#[115, 101, 101, 100]⟩
set_option maxRecDepth 20000 in
set_option maxHeartbeats 1000000 in
theorem lock_any (x : Pr) (b : Eb) (q : Nat) (w : World) (hk : Keyed w) (hq : q < w.heap.size) (row : w.rowD q = encPr x) (fr : ∀ i, w.frozen? ⟨q, i, none⟩ = false) :
    Calls Tryd.prog 98 #[.agg (encMk q 129 b)] w fun e w' => e = .returned (.tuple #[]) ∧ Kept q w w' ∧ w'.rowD q = encPr ⟨x.now, { x.next with seed := tagOf seedName [x.next.seed.l, b.draw.l], lock := b.prev }⟩ := by
  go_enter Tryd.func98, Tryd.ntmps98
  go_wp2_with fail
  generalize hW : World.alloc w _ = W
  have own : Owns w W [(w.heap.size, encMk q 129 b)] := hW ▸ own_one w _ _
  clear hW
  have hkW := hk.below own.below
  have ownK := own.toK hq
  rw [row] at ownK
  have frW := ownK.fr fr
  have ltW := ownK.lt hq
  have rowW := ownK.row
  obtain ⟨-, lt, row0, fr0⟩ := ownK.at1
  refine wp_region_mid 10 2 (by kernel_rfl) (by kernel_rfl) ?_
  simp only [List.take_succ_cons, List.take_zero, List.drop_succ_cons, List.drop_zero]
  iterate 10 (refine wpGrow_step (fun K hK => ?_); go_simp; refine hK _ ?_; clear hK K)
  refine wpGrow_nil ?_
  intro W1 hb1
  have ownK1 := ownK.call hq hb1
  clear frW ltW rowW lt row0 fr0
  refine wpMid_step rfl (fun W2 hb2 K hK => ?_)
  have ownK2 := ownK1.call hq hb2
  have bel2 := hb1.trans (hb2.mono hb1.size)
  go_simp
  refine hK _ _ (bel2.alloc bel2.size _) ?_; clear hK K
  have ownK3 := ownK2.alloc hq #[Value.slice (some ⟨q, 161, none⟩) 32 32, Value.slice (some ⟨w.heap.size, 67, none⟩) 32 32] 124
  have bel3 := bel2.alloc bel2.size (.cells #[Value.slice (some ⟨q, 161, none⟩) 32 32, Value.slice (some ⟨w.heap.size, 67, none⟩) 32 32] 124)
  clear ownK1 ownK2 bel2 hb1
  have hsz2 := ownK3.at2.2.1
  generalize hW3 : World.alloc W2 _ = W3 at ownK3 bel3 hsz2 ⊢
  generalize W2.heap.size = r at ownK3 hsz2 ⊢
  clear hW3 hb2
  refine wpMid_step rfl (fun W4 hb4 K hK => ?_)
  have ownK4 := ownK3.call hq hb4
  have bel4 := bel3.trans (hb4.mono bel3.size)
  go_simp
  have hps : PartsAt W4 r 0 [x.next.seed.l, b.draw.l] [] := by
    obtain ⟨-, lt1, row1, -⟩ := ownK4.at1
    obtain ⟨-, lt2, row2, -⟩ := ownK4.at2
    refine ⟨lt2, fun i hi => ?_⟩
    match i, hi with
    | 0, _ => exact ⟨q, 161, 32, by rw [row2, List.getElem_cons_zero, x.next.seed.len]; rfl, ownK4.lt hq, by rw [ownK4.row, List.getElem_cons_zero, x.next.seed.len]; exact pr_next_seed x⟩
    | 1, _ => exact ⟨w.heap.size, 67, 32, by rw [row2]; simp [b.draw.len], lt1, by rw [row1]; simp only [List.getElem_cons_succ, List.getElem_cons_zero, b.draw.len]; exact mk_draw q 129 b⟩
  refine (Of_any seedName seedS [x.next.seed.l, b.draw.l] [] r 0 2 W4 (hkW.below bel4) (by kernel_rfl) (by kernel_rfl) (by decide) (by simp) (by simp) hps ?_ (by simp) ?_ ?_).mono ?_
  · intro p hp
    simp only [List.mem_cons, List.not_mem_nil, or_false] at hp
    rcases hp with rfl | rfl
    · rw [x.next.seed.len]; omega
    · rw [b.draw.len]; omega
  · simp [image, seedName, be, x.next.seed.len, b.draw.len]
  · exact lt_image (by decide) (by decide) (by simp) (by intro p hp; simp only [List.mem_cons, List.not_mem_nil, or_false] at hp; rcases hp with rfl | rfl; exact x.next.seed.lt; exact b.draw.lt)
  rintro e W5 ⟨rfl, hb5⟩
  have ownK5 := ownK4.call hq hb5
  refine ⟨_, rfl, hK _ _ (bel4.trans (hb5.mono bel4.size)) ?_⟩; clear hK K
  clear ownK3 ownK4 bel3 bel4 hps hb4 hb5
  refine wpMid_nil (fun W6 hb6 => ?_)
  have ownK6 := ownK5.call hq hb6
  clear ownK5 hb6
  have frW := ownK6.fr fr
  have ltW := ownK6.lt hq
  have rowW := ownK6.row
  generalize hT : tagOf seedName _ = T
  clear own row
  go_wp2_with fail
  have ownK7 := ownK6.set hq 161 (encH T).toList
  rw [set_pr_next_seed] at ownK7
  generalize World.setCells W6 _ _ _ = W7 at ownK7 ⊢
  clear ownK6 frW ltW rowW
  replace ownK7 : OwnK q (encPr ⟨x.now, ⟨x.next.ledger, T, x.next.start, x.next.lock, x.next.length⟩⟩) w W7 [(w.heap.size, encMk q 129 b)] := ⟨ownK7.kept, ownK7.row, fun p hp => ownK7.blocks p (by simp at hp; subst hp; simp)⟩
  have frW := ownK7.fr fr
  have ltW := ownK7.lt hq
  have rowW := ownK7.row
  obtain ⟨-, lt1, row1, fr1⟩ := ownK7.at1
  by_cases hl : x.next.lock = b.prev
  · go_quiet (fail)
    go_wp2_with fail
    refine bodyPost_end (results_none rfl _ _ _) rfl ⟨rfl, ?_⟩
    have := ownK7.call hq (below_drewN W7 nq)
    exact ⟨this.kept, by rw [this.row, ← hT, hl]⟩
  · go_quiet (fail)
    go_wp2_with fail
    refine bodyPost_end (results_none rfl _ _ _) rfl ⟨rfl, ?_⟩
    have := (ownK7.call hq (below_drewN W7 nq)).set hq 225 (encH b.prev).toList
    rw [set_pr_next_lock] at this
    exact ⟨this.kept, by rw [this.row, ← hT]⟩
end Go.Proofs.YtpoaakdljpdkfaaDoor

/- STRUCTS AND ARRAYS THAT ARE COMPARED: the answer is the plain equality. -/
import Derived.Test.YtpoaakdljpdkfaaDoorTy
import Derived.ChangeKeysEq
set_option linter.unusedSimpArgs false
set_option linter.unusedVariables false
namespace Go
open Go.RowKit
theorem part_one {P : Program} {e : TypeId} (hu : ∀ w, (isAgg e).run P w = .ok false w) {cs : Array Value} {off : Nat} {v : Value} (h : cs[off]? = some v) (w : World) : (part e cs off).run P w = .ok v w := by
  simp [part, hu, h]
theorem part_agg {P : Program} {e : TypeId} {n : Nat} (hu : ∀ w, (isAgg e).run P w = .ok true w) (hs : ∀ w, (Go.sizeOf e).run P w = .ok n w) (cs : Array Value) (off : Nat) (w : World) : (part e cs off).run P w = .ok (.agg (cs.extract off (off + n))) w := by
  simp [part, hu, hs]
theorem eqItems_ints {P : Program} {e : TypeId} {k k' : IntKind} (hu : ∀ w, (isAgg e).run P w = .ok false w) (he : P.underlying e = some (.int k')) (d : Nat) (w : World) (xs ys : Array Value) :
    ∀ (l m : List Nat) (s : Nat), xs.toList.drop s = l.map (fun n : Nat => Value.int k (n : Int)) → ys.toList.drop s = m.map (fun n : Nat => Value.int k (n : Int)) → l.length = m.length →
    (Op.eqItems (d + 1) e 1 xs ys (List.range' s l.length)).run P w = .ok (decide (l = m)) w
  | [], m, s, _, _, h => by
    cases m with
    | nil => rfl
    | cons => cases h
  | a :: l, [], s, _, _, h => by cases h
  | a :: l, b :: m, s, hx, hy, h => by
    have x0 : xs[s]? = some (.int k (a : Int)) := by
      have := congrArg (·[0]?) hx
      simpa [List.getElem?_drop] using this
    have y0 : ys[s]? = some (.int k (b : Int)) := by
      have := congrArg (·[0]?) hy
      simpa [List.getElem?_drop] using this
    have x1 : xs.toList.drop (s + 1) = l.map (fun n : Nat => Value.int k (n : Int)) := by
      rw [← List.drop_drop, hx]; rfl
    have y1 : ys.toList.drop (s + 1) = m.map (fun n : Nat => Value.int k (n : Int)) := by
      rw [← List.drop_drop, hy]; rfl
    have ih := eqItems_ints hu he d w xs ys l m (s + 1) x1 y1 (by simpa using h)
    simp only [List.length_cons, List.range'_succ, Op.eqItems, Sem.run_bind, Nat.mul_one, part_one hu x0, part_one hu y0, Result.andThen_ok, run_equalIn_int w d e k k' _ _ he]
    by_cases hab : a = b
    · subst hab
      simp [ih]
    · have : ((a : Int) == (b : Int)) = false := by simpa using fun h => hab (by omega)
      simp [this, hab]
theorem equalIn_ints {P : Program} {t e : TypeId} {n : Nat} {k k' : IntKind} (ht : P.underlying t = some (.array n e)) (hi : (P.info? e).isSome = true) (hc : P.cellsOf e = 1) (hu : ∀ w, (isAgg e).run P w = .ok false w) (he : P.underlying e = some (.int k'))
    (d : Nat) (w : World) (l m : List Nat) (hl : l.length = n) (hm : m.length = n) :
    (Op.equalIn (d + 2) t (.agg (l.map (fun n : Nat => Value.int k (n : Int))).toArray) (.agg (m.map (fun n : Nat => Value.int k (n : Int))).toArray)).run P w = .ok (decide (l = m)) w := by
  obtain ⟨i, hi⟩ := Option.isSome_iff_exists.1 hi
  rw [run_equalIn_array w (d + 1) _ _ ht hi, hc, List.range_eq_range', ← hl]
  exact eqItems_ints hu he d w _ _ l m 0 rfl rfl (by omega)
theorem natCast_beq (a b : Nat) : ((a : Int) == (b : Int)) = decide (a = b) := by
  by_cases h : a = b
  · subst h; simp
  · rw [decide_eq_false h]; simpa using fun h' => h (by omega)
/-- the parts of a struct, one after the other: type, place -/
def Op.eqL (d : Nat) (xs ys : Array Value) : List (TypeId × Nat) → Sem Bool
  | [] => pure true
  | (t, o) :: l => do
    let a ← part t xs o
    let b ← part t ys o
    let r ← Op.equalIn d t a b
    if (!r) = true then pure false else Op.eqL d xs ys l
theorem eqFields_L (d : Nat) (xs ys : Array Value) : ∀ {fs : List Field} {L : List (TypeId × Nat)}, fs.map (fun f => (f.name != "_", f.type, f.offset)) = L.map (fun p => (true, p.1, p.2)) → Op.eqFields d xs ys fs = Op.eqL d xs ys L
  | [], [], _ => rfl
  | [], _ :: _, h => by cases h
  | _ :: _, [], h => by cases h
  | f :: fs, (t, o) :: L, h => by
    simp only [List.map_cons, List.cons.injEq, Prod.mk.injEq] at h
    obtain ⟨⟨h1, h2, h3⟩, h4⟩ := h
    unfold Op.eqFields Op.eqL
    rw [if_pos (by simpa using h1), h2, h3, eqFields_L d xs ys h4]
theorem run_eqL_nil {P : Program} {d : Nat} {xs ys : Array Value} (w : World) : (Op.eqL d xs ys []).run P w = .ok true w := rfl
theorem run_eqL_step {P : Program} {d : Nat} {xs ys : Array Value} {t : TypeId} {o : Nat} {L : List (TypeId × Nat)} {a b : Value} {r s : Bool} (w : World) (ha : (part t xs o).run P w = .ok a w) (hb : (part t ys o).run P w = .ok b w)
    (hr : (Op.equalIn d t a b).run P w = .ok r w) (hL : (Op.eqL d xs ys L).run P w = .ok s w) : (Op.eqL d xs ys ((t, o) :: L)).run P w = .ok (r && s) w := by
  simp only [Op.eqL, Sem.run_bind, ha, hb, hr, Result.andThen_ok]
  cases r <;> simp [hL]
end Go
namespace Go.Alm
theorem H32.ext' {a b : H32} (h : a.l = b.l) : a = b := by
  obtain ⟨l, _, _⟩ := a; obtain ⟨m, _, _⟩ := b; cases h; rfl
theorem C4.ext' {a b : C4} (h : a.l = b.l) : a = b := by
  obtain ⟨l, _⟩ := a; obtain ⟨m, _⟩ := b; cases h; rfl
theorem H32.dec (a b : H32) : decide (a.l = b.l) = decide (a = b) := decide_eq_decide.2 ⟨H32.ext', fun h => h ▸ rfl⟩
theorem C4.dec (a b : C4) : decide (a.l = b.l) = decide (a = b) := decide_eq_decide.2 ⟨C4.ext', fun h => h ▸ rfl⟩
end Go.Alm
namespace Go.Proofs.YtpoaakdljpdkfaaDoor
open Go.RowKit Go.Alm
theorem eqH (d : Nat) (w : World) (a b : H32) : (Op.equalIn (d + 2) 23 (.agg (encH a)) (.agg (encH b))).run Tryd.prog w = .ok (decide (a = b)) w := by
  rw [← H32.dec]; exact equalIn_ints (n := 32) (e := 5) (k' := .u8) (by kernel_rfl) (by kernel_rfl) (by kernel_rfl) (fun _ => by kernel_rfl) (by kernel_rfl) d w a.l b.l a.len b.len
theorem eqC (d : Nat) (w : World) (a b : C4) : (Op.equalIn (d + 2) 25 (.agg (encC a)) (.agg (encC b))).run Tryd.prog w = .ok (decide (a = b)) w := by
  rw [← C4.dec]; exact equalIn_ints (n := 4) (e := 24) (k' := .u32) (by kernel_rfl) (by kernel_rfl) (by kernel_rfl) (fun _ => by kernel_rfl) (by kernel_rfl) d w a.l b.l a.len b.len
theorem agg32 (w : World) : (isAgg 24).run Tryd.prog w = .ok false w := by kernel_rfl

theorem fldRg : (Tryd.prog.fieldsOf 27).toList.map (fun f => (f.name != "_", f.type, f.offset)) = ([(24, 0), (25, 1)] : List (TypeId × Nat)).map (fun p => (true, p.1, p.2)) := by kernel_rfl
theorem eqRg (d : Nat) (w : World) (a b : Rg) : (Op.equalIn (d + 3) 27 (.agg (encRg a)) (.agg (encRg b))).run Tryd.prog w = .ok (decide (a = b)) w := by
  rw [run_equalIn_struct w (d + 2) 27 _ _ (by kernel_rfl) (by kernel_rfl), eqFields_L _ _ _ fldRg]
  refine (run_eqL_step w (part_one agg32 (rg_last a) w) (part_one agg32 (rg_last b) w) (run_equalIn_int w (d + 1) 24 .u32 .u32 _ _ (by kernel_rfl))
    (run_eqL_step w ((part_agg aggC sizC _ 1 w).trans (by rw [rg_counts])) ((part_agg aggC sizC _ 1 w).trans (by rw [rg_counts])) (eqC (d + 0) w _ _)
    (run_eqL_nil w))).trans ?_
  obtain ⟨x0, x1⟩ := a; obtain ⟨y0, y1⟩ := b
  simp only [Rg.mk.injEq, Bool.and_true, Bool.decide_and, natCast_beq]
theorem fldWn : (Tryd.prog.fieldsOf 29).toList.map (fun f => (f.name != "_", f.type, f.offset)) = ([(24, 0), (27, 1)] : List (TypeId × Nat)).map (fun p => (true, p.1, p.2)) := by kernel_rfl
theorem eqWn (d : Nat) (w : World) (a b : Wn) : (Op.equalIn (d + 4) 29 (.agg (encWn a)) (.agg (encWn b))).run Tryd.prog w = .ok (decide (a = b)) w := by
  rw [run_equalIn_struct w (d + 3) 29 _ _ (by kernel_rfl) (by kernel_rfl), eqFields_L _ _ _ fldWn]
  refine (run_eqL_step w (part_one agg32 (wn_min a) w) (part_one agg32 (wn_min b) w) (run_equalIn_int w (d + 2) 24 .u32 .u32 _ _ (by kernel_rfl))
    (run_eqL_step w ((part_agg aggRg sizRg _ 1 w).trans (by rw [wn_ring])) ((part_agg aggRg sizRg _ 1 w).trans (by rw [wn_ring])) (eqRg (d + 0) w _ _)
    (run_eqL_nil w))).trans ?_
  obtain ⟨x0, x1⟩ := a; obtain ⟨y0, y1⟩ := b
  simp only [Wn.mk.injEq, Bool.and_true, Bool.decide_and, natCast_beq]
theorem fldDt : (Tryd.prog.fieldsOf 31).toList.map (fun f => (f.name != "_", f.type, f.offset)) = ([(23, 0), (23, 32), (23, 64), (23, 96), (24, 128)] : List (TypeId × Nat)).map (fun p => (true, p.1, p.2)) := by kernel_rfl
theorem eqDt (d : Nat) (w : World) (a b : Dt) : (Op.equalIn (d + 3) 31 (.agg (encDt a)) (.agg (encDt b))).run Tryd.prog w = .ok (decide (a = b)) w := by
  rw [run_equalIn_struct w (d + 2) 31 _ _ (by kernel_rfl) (by kernel_rfl), eqFields_L _ _ _ fldDt]
  refine (run_eqL_step w ((part_agg aggH sizH _ 0 w).trans (by rw [dt_ledger])) ((part_agg aggH sizH _ 0 w).trans (by rw [dt_ledger])) (eqH (d + 0) w _ _)
    (run_eqL_step w ((part_agg aggH sizH _ 32 w).trans (by rw [dt_seed])) ((part_agg aggH sizH _ 32 w).trans (by rw [dt_seed])) (eqH (d + 0) w _ _)
    (run_eqL_step w ((part_agg aggH sizH _ 64 w).trans (by rw [dt_start])) ((part_agg aggH sizH _ 64 w).trans (by rw [dt_start])) (eqH (d + 0) w _ _)
    (run_eqL_step w ((part_agg aggH sizH _ 96 w).trans (by rw [dt_lock])) ((part_agg aggH sizH _ 96 w).trans (by rw [dt_lock])) (eqH (d + 0) w _ _)
    (run_eqL_step w (part_one agg32 (dt_length a) w) (part_one agg32 (dt_length b) w) (run_equalIn_int w (d + 1) 24 .u32 .u32 _ _ (by kernel_rfl))
    (run_eqL_nil w)))))).trans ?_
  obtain ⟨x0, x1, x2, x3, x4⟩ := a; obtain ⟨y0, y1, y2, y3, y4⟩ := b
  simp only [Dt.mk.injEq, Bool.and_true, Bool.decide_and, natCast_beq]
theorem fldPr : (Tryd.prog.fieldsOf 33).toList.map (fun f => (f.name != "_", f.type, f.offset)) = ([(31, 0), (31, 129)] : List (TypeId × Nat)).map (fun p => (true, p.1, p.2)) := by kernel_rfl
theorem eqPr (d : Nat) (w : World) (a b : Pr) : (Op.equalIn (d + 4) 33 (.agg (encPr a)) (.agg (encPr b))).run Tryd.prog w = .ok (decide (a = b)) w := by
  rw [run_equalIn_struct w (d + 3) 33 _ _ (by kernel_rfl) (by kernel_rfl), eqFields_L _ _ _ fldPr]
  refine (run_eqL_step w ((part_agg aggDt sizDt _ 0 w).trans (by rw [pr_now])) ((part_agg aggDt sizDt _ 0 w).trans (by rw [pr_now])) (eqDt (d + 0) w _ _)
    (run_eqL_step w ((part_agg aggDt sizDt _ 129 w).trans (by rw [pr_next])) ((part_agg aggDt sizDt _ 129 w).trans (by rw [pr_next])) (eqDt (d + 0) w _ _)
    (run_eqL_nil w))).trans ?_
  obtain ⟨x0, x1⟩ := a; obtain ⟨y0, y1⟩ := b
  simp only [Pr.mk.injEq, Bool.and_true, Bool.decide_and, natCast_beq]
theorem fldSt : (Tryd.prog.fieldsOf 35).toList.map (fun f => (f.name != "_", f.type, f.offset)) = ([(23, 0), (23, 32), (23, 64), (24, 96), (24, 97), (24, 98), (29, 99), (33, 105)] : List (TypeId × Nat)).map (fun p => (true, p.1, p.2)) := by kernel_rfl
theorem eqSt (d : Nat) (w : World) (a b : St) : (Op.equalIn (d + 5) 35 (.agg (encSt a)) (.agg (encSt b))).run Tryd.prog w = .ok (decide (a = b)) w := by
  rw [run_equalIn_struct w (d + 4) 35 _ _ (by kernel_rfl) (by kernel_rfl), eqFields_L _ _ _ fldSt]
  refine (run_eqL_step w ((part_agg aggH sizH _ 0 w).trans (by rw [st_prev])) ((part_agg aggH sizH _ 0 w).trans (by rw [st_prev])) (eqH (d + 2) w _ _)
    (run_eqL_step w ((part_agg aggH sizH _ 32 w).trans (by rw [st_ledger])) ((part_agg aggH sizH _ 32 w).trans (by rw [st_ledger])) (eqH (d + 2) w _ _)
    (run_eqL_step w ((part_agg aggH sizH _ 64 w).trans (by rw [st_draw])) ((part_agg aggH sizH _ 64 w).trans (by rw [st_draw])) (eqH (d + 2) w _ _)
    (run_eqL_step w (part_one agg32 (st_slot a) w) (part_one agg32 (st_slot b) w) (run_equalIn_int w (d + 3) 24 .u32 .u32 _ _ (by kernel_rfl))
    (run_eqL_step w (part_one agg32 (st_length a) w) (part_one agg32 (st_length b) w) (run_equalIn_int w (d + 3) 24 .u32 .u32 _ _ (by kernel_rfl))
    (run_eqL_step w (part_one agg32 (st_count a) w) (part_one agg32 (st_count b) w) (run_equalIn_int w (d + 3) 24 .u32 .u32 _ _ (by kernel_rfl))
    (run_eqL_step w ((part_agg aggWn sizWn _ 99 w).trans (by rw [st_win])) ((part_agg aggWn sizWn _ 99 w).trans (by rw [st_win])) (eqWn (d + 0) w _ _)
    (run_eqL_step w ((part_agg aggPr sizPr _ 105 w).trans (by rw [st_epochs])) ((part_agg aggPr sizPr _ 105 w).trans (by rw [st_epochs])) (eqPr (d + 0) w _ _)
    (run_eqL_nil w))))))))).trans ?_
  obtain ⟨x0, x1, x2, x3, x4, x5, x6, x7⟩ := a; obtain ⟨y0, y1, y2, y3, y4, y5, y6, y7⟩ := b
  simp only [St.mk.injEq, Bool.and_true, Bool.decide_and, natCast_beq]
theorem fldKy : (Tryd.prog.fieldsOf 72).toList.map (fun f => (f.name != "_", f.type, f.offset)) = ([(24, 0), (23, 1), (23, 33)] : List (TypeId × Nat)).map (fun p => (true, p.1, p.2)) := by kernel_rfl
theorem eqKy (d : Nat) (w : World) (a b : Ky) : (Op.equalIn (d + 3) 72 (.agg (encKy a)) (.agg (encKy b))).run Tryd.prog w = .ok (decide (a = b)) w := by
  rw [run_equalIn_struct w (d + 2) 72 _ _ (by kernel_rfl) (by kernel_rfl), eqFields_L _ _ _ fldKy]
  refine (run_eqL_step w (part_one agg32 (ky_length a) w) (part_one agg32 (ky_length b) w) (run_equalIn_int w (d + 1) 24 .u32 .u32 _ _ (by kernel_rfl))
    (run_eqL_step w ((part_agg aggH sizH _ 1 w).trans (by rw [ky_draw])) ((part_agg aggH sizH _ 1 w).trans (by rw [ky_draw])) (eqH (d + 0) w _ _)
    (run_eqL_step w ((part_agg aggH sizH _ 33 w).trans (by rw [ky_hash])) ((part_agg aggH sizH _ 33 w).trans (by rw [ky_hash])) (eqH (d + 0) w _ _)
    (run_eqL_nil w)))).trans ?_
  obtain ⟨x0, x1, x2⟩ := a; obtain ⟨y0, y1, y2⟩ := b
  simp only [Ky.mk.injEq, Bool.and_true, Bool.decide_and, natCast_beq]
end Go.Proofs.YtpoaakdljpdkfaaDoor

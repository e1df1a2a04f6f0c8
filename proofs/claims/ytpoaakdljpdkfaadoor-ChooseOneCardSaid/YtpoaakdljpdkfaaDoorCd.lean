/- WHAT EVERY CARD OF THIS SEAT WANTS: the table that is laid, the start of the witness, the row's last step. -/
import Derived.Test.YtpoaakdljpdkfaaDoorRows
import Derived.Test.YtpoaakdljpdkfaaDoorC8
import Derived.ProofKit
import Derived.LaidMore
import Derived.OpenShut
import Derived.Stop.Joined
set_option linter.unusedSimpArgs false
set_option linter.unusedVariables false
namespace Go
open Go.RowKit Go.WideShapes Go.ChangeShapes
theorem rowD_of_var? {P : Program} {w : World} {n : String} {g : Nat} {cs : Array Value} (hg : P.globalNamed n = some g) (h : w.var? P n = some cs) : g < w.heap.size ∧ w.rowD g = cs := by
  simp only [World.var?, hg, Option.bind_some] at h
  cases hh : w.heap[g]? with
  | none => simp [hh] at h
  | some o =>
    have hlt : g < w.heap.size := (Array.getElem?_eq_some_iff.1 hh).1
    rw [hh] at h
    cases o <;> simp at h
    exact ⟨hlt, by rw [World.rowD, hh]; exact h⟩

section
variable {H : Type} {enc : TypeId × Value → H} {P : Program}
theorem post_below {f : Func} {s : ChangeSpec} {apart fresh handsOn again : Bool} {W W' : World} {args : Array Value} {v : Value} {ds gs : List (DataW H)} {before pa pv : List MemPlace}
    (hW : DataW.Whole enc P f.params.toList s.vars apart W args.toList ds gs before)
    (hres : ∀ (b : Nat) (sp : Nat → Bool) (hd : Bool), DataW.TrodAll enc P W' b sp hd f.resultTypes.toList (v.resultList f.resultTypes.size) (s.fn H (ds ++ gs)).results [])
    (hargs : ∀ sp : Nat → Bool, (∀ p ∈ before, sp p.block = true) → DataW.TrodAll enc P W' 0 sp true f.params.toList args.toList (s.fn H (ds ++ gs)).args pa)
    (hvars : ∀ sp : Nat → Bool, (∀ p ∈ before, sp p.block = true) → DataW.TrodVars enc P W' sp s.vars (s.fn H (ds ++ gs)).vars pv)
    (hps : before = pa ++ pv) (hb : Below W.heap.size W W')
    (hok : ∀ (j : Nat) (t : TypeId) (r : Value), f.resultTypes[j]? = some t → (v.resultList f.resultTypes.size)[j]? = some r → Value.okWide P W' .any 0 t r) :
    s.post enc P f apart fresh handsOn again W args v W' := by
  have hlt : ∀ p ∈ before, p.block < W.heap.size := fun p hp => hW.lt p hp
  have hold : ∀ p ∈ before, (fun b => decide (b < W.heap.size)) p.block = true := fun p hp => by simpa using hlt p hp
  refine ⟨ds, gs, before, [], pa, pv, hW, hres _ _ _, hargs _ hold, hvars _ hold, World.keptBut_mono (fun p hp => ⟨hp, ?_⟩) (hb.frame (· ∈ before)), fun _ => ?_⟩
  · rw [hps, List.mem_append] at hp
    exact Or.inr hp
  · obtain ⟨_, _, _, _, _, hz, hn⟩ := hW
    refine ⟨hok, _, _, ([] ++ pa) ++ pv, ⟨[] ++ pa, pv, trodAll_append (hargs _ (fun _ _ => rfl)) (hres _ _ _), hvars _ (fun _ _ => rfl), rfl, ?_, ?_⟩, ?_⟩
    · intro b off hp
      have hin : MemPlace.cell b off ∈ before := by rw [hps]; simpa using hp
      rw [hb.frozen (hlt _ hin)]
      exact hz b off hin
    · intro ha
      have := hn ha
      rw [hps] at this
      simpa using this
    · intro p hp _
      rw [hps]
      simpa using hp

/-- every argument reads as it did -/
theorem trodAll_below (hl : laidOutB P = true) {W W' : World} (hb : Below W.heap.size W W') (sp : Nat → Bool) : ∀ {ts : List TypeId} {vs : List Value} {ds : List (DataW H)} {ps : List MemPlace},
    (∀ t ∈ ts, P.readableRec t = true ∧ t < P.types.size) → DataW.TrodAll enc P W 0 (fun _ => true) true ts vs ds ps → (∀ x ∈ ps, x.block < W.heap.size) → (∀ p ∈ ps, sp p.block = true) →
    DataW.TrodAll enc P W' 0 sp true ts vs ds ps
  | [], [], [], ps, _, h, _, _ => h
  | t :: ts, v :: vs, d :: ds, ps, hr, h, hlt, hs => by
    obtain ⟨p, p', h1, h2, rfl⟩ := h
    refine ⟨p, p', ?_, trodAll_below hl hb sp (fun t ht => hr t (List.mem_cons_of_mem _ ht)) h2 (fun x hx => hlt x (List.mem_append_right _ hx)) (fun x hx => hs x (List.mem_append_right _ hx)), rfl⟩
    exact WideElems.Trod_stays hl (hr t (by simp)).1 (hr t (by simp)).2 h1 (fun x hx => hb.same (hlt x (List.mem_append_left _ hx))) (fun x hx => hs x (List.mem_append_left _ hx))
  | [], _ :: _, _, _, _, h, _, _ => by cases h
  | [], [], _ :: _, _, _, h, _, _ => by cases h
  | _ :: _, [], _, _, _, h, _, _ => by cases h
  | _ :: _, _ :: _, [], _, _, h, _, _ => by cases h

/-- THE LAW's LAST STEP: true; each argument reads as it did; nothing older is written. -/
theorem law_post {f : Func} {s : ChangeSpec} {W W' : World} {args : Array Value} {ds : List (DataW H)} {before : List MemPlace} {tb : TypeId}
    (hW : DataW.Whole enc P f.params.toList s.vars false W args.toList ds [] before) (hb : Below W.heap.size W W')
    (hvs : s.vars = []) (hl : laidOutB P = true) (hr : (f.params.toList.all fun t => P.readableRec t && decide (t < P.types.size)) = true)
    (hres : f.resultTypes = #[tb]) (htb : P.underlying tb = some .bool) (hfn : s.fn H ds = { results := [.lit (.bool true)], args := ds }) :
    s.post enc P f false true false false W args (.bool true) W' := by
  have hlt : ∀ p ∈ before, p.block < W.heap.size := fun p hp => hW.lt p hp
  have hW' := hW
  obtain ⟨p, q, hA, hV, rfl, hfz, hnd⟩ := hW
  rw [hvs] at hV
  have hq : q = [] := (trodVars_none hV).2
  subst hq
  simp only [List.append_nil] at hlt hW'
  refine post_below (pa := p) (pv := []) hW' ?_ ?_ ?_ (by simp) hb ?_
  · intro b sp hd
    rw [List.append_nil, hfn, hres]
    exact trodAll_mk1 (shut_bool htb _)
  · intro sp hs
    rw [List.append_nil, hfn]
    refine trodAll_below hl hb sp (fun t ht => ?_) hA hlt hs
    have := List.all_eq_true.1 hr t ht
    simpa using this
  · intro sp hs
    rw [List.append_nil, hfn, hvs]
    exact rfl
  · exact ok_one hres rfl (okWide_bool_mk htb _)
end
end Go
namespace Go.Proofs.YtpoaakdljpdkfaaDoor
open Go.RowKit Go.Alm Go.ChangeShapes Go.WideShapes Go.ChangeAt
theorem Tryd.own : ownKnob Tryd.prog.godebug = none := by kernel_rfl
theorem Tryd.laidOut : laidOutB Tryd.prog = true := by kernel_rfl

theorem keyed_of_vars {W : World} {l : List (String × DataW Unit)} {ps : List MemPlace} (h : DataW.LaidVars Tryd.prog W (("almagest/sha.keys", Rows.laid_almagest_sha_keys) :: l) ps) : Keyed W := by
  obtain ⟨g, t, cs, fuel, p, q, hg, ht, hv, hd, _, _⟩ := h
  obtain rfl := Option.some.inj ((show Tryd.prog.globalNamed "almagest/sha.keys" = some kg by kernel_rfl).symm.trans hg)
  obtain rfl := Option.some.inj ((show (Tryd.prog.globals[kg]?).map (·.type) = some 235 by kernel_rfl).symm.trans ht)
  obtain ⟨xs, m, _, ex, hlen, hl, hel⟩ := DataW.trod_array (show Tryd.prog.underlying 235 = some (.array 64 24) by kernel_rfl) hd
  have c5 : Tryd.prog.cellsOf 24 = 1 := by kernel_rfl
  have c64 : Tryd.prog.cellsOf 235 = 64 := by kernel_rfl
  obtain ⟨hlt, hrow⟩ := rowD_of_var? hg hv
  refine ⟨hlt, hrow.trans ?_⟩
  have e3 : xs.map (·.1) = keys.map fun n : Nat => (DataW.lit (.int .u32 (n : Int)) : DataW Unit) := (DataW.agg.inj (Prod.mk.inj ex).1).symm
  apply Array.toList_inj.1
  apply List.ext_getElem?
  intro r
  by_cases hr : r < 64
  · have hE := hel r hr
    rw [c5, Nat.mul_one, List.getElem?_eq_getElem (by omega)] at hE
    obtain ⟨z, e1, e2, _⟩ := DataW.trod_int (show Tryd.prog.underlying 24 = some (.int .u32) by kernel_rfl) hE
    have e4 : (xs.map (·.1))[r]? = (keys.map fun n : Nat => (DataW.lit (.int .u32 (n : Int)) : DataW Unit))[r]? := by rw [e3]
    have hk : r < keys.length := by rw [len_keys]; omega
    rw [List.getElem?_map, List.getElem?_map, List.getElem?_eq_getElem (by omega : r < xs.length), List.getElem?_eq_getElem hk, e2] at e4
    have hz : z = ((keys[r]'hk : Nat) : Int) := by simpa using e4
    have h0 : ((cs.toList.drop r).take 1)[0]? = some (.int .u32 z) := by rw [e1]; rfl
    have h1 : cs.toList[r]? = some (.int .u32 z) := by simpa using h0
    rw [h1, hz]
    simp [encU, hk]
  · rw [List.getElem?_eq_none (by rw [hlen, c64]; omega), List.getElem?_eq_none (by simp [encU, len_keys]; omega)]
theorem keyed_of_laid1 {W : World} (h : laidMetH Tryd.prog [("almagest/sha.keys", Rows.laid_almagest_sha_keys)] W) : Keyed W := by
  rw [MakeChecks.laidMetH_plain _ _ _ (by kernel_rfl)] at h
  obtain ⟨ps, h, _⟩ := h
  exact keyed_of_vars h
/-- The door's own heap meets the condition. -/
theorem door_met1 (os : Os) (args : Array Value) : laidMetH Tryd.prog [("almagest/sha.keys", Rows.laid_almagest_sha_keys)] ((World.doorLaid Tryd.prog 4000 os).forCall (fun _ _ => 0) ⟨#[], args, []⟩).memory :=
  laidMetH_of_parts3 (fuel := 8) (laidMet_of_run' 8 (by kernel_rfl) (by kernel_rfl)) (by kernel_rfl) (by kernel_rfl)
end Go.Proofs.YtpoaakdljpdkfaaDoor

/- THE WALK OF sha.Of. -/
import Derived.Test.YtpoaakdljpdkfaaDoorC10
import Derived.Laws.AppendOwn
import Derived.Lib.AppendStr
import Derived.Test.YtpoaakdljpdkfaaDoorC5
set_option linter.unusedSimpArgs false
set_option linter.unusedVariables false
namespace Go
open Go.RowKit
theorem Owns.also {w W W1 : World} {L M : List (Nat × Array Value)} (h : Owns w W L) (h2 : Owns W W1 M) : Owns w W1 (L ++ M) := by
  refine ⟨h.below.trans (h2.below.mono h.below.size), fun p hp => ?_⟩
  rcases List.mem_append.1 hp with hp | hp
  · exact (h.call h2.below).blocks p hp
  · obtain ⟨h3, h4, h5, h6⟩ := h2.blocks p hp
    exact ⟨Nat.le_trans h.below.size h3, h4, h5, h6⟩
end Go
namespace Go.Alm
open Go.RowKit
theorem rep0 : Rep [] ⟨iv, List.replicate 64 0, 0⟩ := ⟨rfl, rfl, rfl, by intro v hv; rw [List.eq_of_mem_replicate hv]; omega, rfl, by decide⟩
/-- where bytes lie -/
def At (w : World) (ao : Option Addr) (c : Nat) (bs : List Nat) : Prop := bs = [] ∨ ∃ q o, ao = some ⟨q, o, none⟩ ∧ q < w.heap.size ∧ bs.length ≤ c ∧ (w.rowD q).extract o (o + bs.length) = encB bs
theorem At.below {w w' : World} {ao : Option Addr} {c : Nat} {bs : List Nat} (h : At w ao c bs) (hb : Below w.heap.size w w') : At w' ao c bs := by
  rcases h with h | ⟨q, o, h1, h2, h3, h4⟩
  · exact .inl h
  · exact .inr ⟨q, o, h1, Nat.lt_of_lt_of_le h2 hb.size, h3, by rw [rowD_congr (hb.block q h2)]; exact h4⟩
end Go.Alm
namespace Go.Proofs.YtpoaakdljpdkfaaDoor
open Go.RowKit Go.Alm
set_option maxRecDepth 20000 in
theorem ShaOf_any (bs : List Nat) (c : Nat) (ao : Option Addr) (w : World) (hk : Keyed w) (hs : At w ao c bs) (hb : ∀ v ∈ bs, v < 256) (hlen : bs.length < 1152921504606840000) :
    Calls Tryd.prog 100 #[.slice ao bs.length c] w fun e w' => e = .returned (.agg (encH (sha bs))) ∧ Below w.heap.size w w' := by
  go_enter Tryd.func100, Tryd.ntmps100
  go_wp2_with fail
  generalize hW : World.alloc w _ = W
  have own : Owns w W [(w.heap.size, encH zeroH)] := hW ▸ own_one w _ _
  clear hW
  have hBW := own.at1.2.1
  refine (New_any W).mono ?_
  rintro e w1 ⟨rfl, ownN⟩
  have own1 := own.also ownN
  simp only [List.cons_append, List.nil_append] at own1
  generalize W.heap.size = g at *
  go_wp2_with fail
  obtain ⟨hg0, ltg, rowg, frg⟩ := own1.at2
  have hkg := hk.lt
  have hkne : kg ≠ g := by omega
  have hs1 := hs.below own1.below
  have hsrc : bs = [] ∨ ∃ q o, Src w1 g ao q o c bs := by
    rcases hs with h | ⟨q, o, h1, h2, h3, h4⟩
    · exact .inl h
    · exact .inr ⟨q, o, h1, by omega, Nat.lt_of_lt_of_le h2 own1.below.size, h3, by rw [rowD_congr (own1.below.block q h2)]; exact h4⟩
  obtain ⟨q, o, hsrc⟩ : ∃ q o, bs = [] ∨ Src w1 g ao q o c bs := by
    rcases hsrc with h | ⟨q, o, h⟩
    · exact ⟨0, 0, .inl h⟩
    · exact ⟨q, o, .inr h⟩
  refine (Write_any _ [] bs g q o c ao w1 rep0 (by simp; omega) (hk.below own1.below) ltg hkne rowg frg hb hsrc).mono ?_
  rintro e w2 ⟨rfl, hkp, x', hrep, row2⟩
  rw [List.nil_append] at hrep
  have own2 := own1.kept hg0 ltg hkp row2
  simp only [List.map_cons, List.map_nil, if_neg (show ¬ w.heap.size = g by omega), if_true] at own2
  clear own1 ltg rowg frg hkp row2 own ownN hs1 hsrc
  obtain ⟨-, ltg, rowg, frg⟩ := own2.at2
  go_wp2_with fail
  refine (Sum_any' x' bs g w2 hrep (hk.below own2.below) ltg rowg hlen).mono ?_
  rintro e w3 ⟨rfl, hb3⟩
  have own3 := own2.call hb3
  clear own2 ltg rowg frg
  obtain ⟨-, lt1, row1, fr1⟩ := own3.at1
  go_wp2_with fail
  exact ret_cell rfl rfl rfl (rWH _ _ (sha bs) (by rw [rowD_setCells_same, row1, spliceL_all _ _ (by rw [Array.length_toList, size_encH, size_encH])])) ⟨rfl, below_setCells _ (by omega) _ _ _ _ own3.below⟩
end Go.Proofs.YtpoaakdljpdkfaaDoor

/- BYTES THAT GROW: append, in one step. -/
set_option linter.unusedSimpArgs false
set_option linter.unusedVariables false
namespace Go.Proofs.YtpoaakdljpdkfaaDoor
open Go.RowKit Go.Alm
/-- v is a slice of the walk's own that holds the bytes bs -/
def Bs (base : Nat) (w : World) (v : Value) (bs : List Nat) : Prop := w.ownsRow base 5 1 v bs.length (bs.map fun n : Nat => Value.int .u8 (n : Int))
theorem Bs.below {base : Nat} {w w' : World} {v : Value} {bs : List Nat} (h : Bs base w v bs) (hb : Below w.heap.size w w') : Bs base w' v bs := by
  refine ⟨h.1, ?_⟩
  rcases h.2 with h1 | ⟨g, cap, cur, h1, h2, h3, h4⟩
  · exact .inl h1
  · exact .inr ⟨g, cap, cur, h1, h2, (hb.block g (Array.getElem?_eq_some_iff.1 h3).1).trans h3, h4⟩
theorem wpList_appB {w : World} {ops : Array Oper} {rest : List Oper} {o : Oper} {a : Act} {Q : Exit → Act → World → Prop} (hgd : o.guard = none) (s x : Operand)
    (ho : o.op = .call { callee := .builtin .append, args := #[s, x], argTypes := #[124, 124] }) (base : Nat) (v : Value) (bs news : List Nat) (hs : a.eval s = v) (hown : Bs base w v bs)
    (g off m c : Nat) (hx : a.eval x = .slice (some ⟨g, off, none⟩) m c) (hm : m = news.length) (hrow : (w.rowD g).extract off (off + news.length) = encB news) (hlen : bs.length + news.length ≤ 140737488355328) (hbase : base ≤ w.heap.size)
    (h : ∀ v' w', Bs base w' v' (bs ++ news) → w.grownBy w' v.ownBlock → wpList Tryd.prog ops Q rest (a.put o.dst v') w') : wpList Tryd.prog ops Q (o :: rest) a w := by
  subst hm
  obtain ⟨i, hi⟩ : ∃ i, Tryd.prog.info? 5 = some i := Option.isSome_iff_exists.1 (by kernel_rfl)
  have hz : (Tryd.prog.info? 5).bind (·.zero) = some (.int .u8 0) := by kernel_rfl
  have hsz : (Tryd.prog.info? 5).map (·.size) = some 1 := by kernel_rfl
  have hby : (Tryd.prog.info? 5).map (·.bytes) = some 1 := by kernel_rfl
  rw [hi] at hz hsz hby
  refine wpList_append_own w hgd s x 124 ho base 5 i (.int .u8 0) 1 1 (by kernel_rfl) hi (by simpa using hz) (by simpa using hsz) (by simpa using hby) rfl (by omega) v bs.length _ hs hown ⟨g, off, none⟩ news.length c (news.map fun n : Nat => Value.int .u8 (n : Int)) hx (by simp) (fun j u hj => ?_) (fun u hu => ?_) (by simp only [maxLen]; omega) (by omega) hbase (fun v' w' h1 h2 _ => h v' w' ?_ h2)
  · rw [addr_mid, cell_rowD]
    have e := congrArg (·[j]?) hrow
    simp only [encB, List.getElem?_toArray] at e
    rw [hj] at e
    simp only [Array.getElem?_extract] at e
    split at e
    · exact e
    · cases e
  · obtain ⟨n, _, rfl⟩ := List.mem_map.1 hu; rfl
  · unfold Bs
    simpa using h1
theorem wpList_appS {w : World} {ops : Array Oper} {rest : List Oper} {o : Oper} {a : Act} {Q : Exit → Act → World → Prop} (hgd : o.guard = none) (s x : Operand)
    (ho : o.op = .call { callee := .builtin .append, args := #[s, x], argTypes := #[124, 9] }) (base : Nat) (v : Value) (bs news : List Nat) (hs : a.eval s = v) (hown : Bs base w v bs)
    (st : ByteArray) (hx : a.eval x = .string st) (hst : Lib.strCells st = news.map fun n : Nat => Value.int .u8 (n : Int)) (hsz : st.size = news.length) (hlen : bs.length + news.length ≤ 140737488355328) (hbase : base ≤ w.heap.size)
    (h : ∀ v' w', Bs base w' v' (bs ++ news) → w.grownBy w' v.ownBlock → wpList Tryd.prog ops Q rest (a.put o.dst v') w') : wpList Tryd.prog ops Q (o :: rest) a w := by
  obtain ⟨i, hi⟩ : ∃ i, Tryd.prog.info? 5 = some i := Option.isSome_iff_exists.1 (by kernel_rfl)
  have hz : (Tryd.prog.info? 5).bind (·.zero) = some (.int .u8 0) := by kernel_rfl
  have hsz1 : (Tryd.prog.info? 5).map (·.size) = some 1 := by kernel_rfl
  have hby : (Tryd.prog.info? 5).map (·.bytes) = some 1 := by kernel_rfl
  rw [hi] at hz hsz1 hby
  refine Lib.wpList_append_own_string w hgd s x 124 9 ho base 5 i (by kernel_rfl) (by kernel_rfl) hi (by simpa using hz) (by simpa using hsz1) (by simpa using hby) v bs.length _ hs hown st hx (by rw [hsz]; simp only [maxLen]; omega) (by omega) hbase (fun v' w' h1 h2 _ => h v' w' ?_ h2)
  unfold Bs
  rw [hst, hsz] at h1
  simpa using h1
end Go.Proofs.YtpoaakdljpdkfaaDoor

/- THE WALKS OF tag: Image, Of. -/
set_option linter.unusedSimpArgs false
set_option linter.unusedVariables false
namespace Go.Proofs.YtpoaakdljpdkfaaDoor
open Go.RowKit Go.Alm
/-- parts of an image: where they lie -/
structure PartsAt (w : World) (q o : Nat) (ps : List (List Nat)) (vs : List (Nat × Nat × Nat)) : Prop where
  lt : q < w.heap.size
  cell : ∀ i (h : i < ps.length), ∃ g off c, (w.rowD q)[o + i]? = some (.slice (some ⟨g, off, none⟩) (ps[i]).length c) ∧ g < w.heap.size ∧ (w.rowD g).extract off (off + (ps[i]).length) = encB ps[i]
theorem PartsAt.below {w w' : World} {q o : Nat} {ps : List (List Nat)} {vs : List (Nat × Nat × Nat)} (h : PartsAt w q o ps vs) (hb : Below w.heap.size w w') : PartsAt w' q o ps vs :=
  ⟨Nat.lt_of_lt_of_le h.lt hb.size, fun i hi => by
    obtain ⟨g, off, c, h1, h2, h3⟩ := h.cell i hi
    exact ⟨g, off, c, by rw [rowD_congr (hb.block q h.lt)]; exact h1, Nat.lt_of_lt_of_le h2 hb.size, by rw [rowD_congr (hb.block g h2)]; exact h3⟩⟩
theorem bs_one (w W : World) (n : Nat) (hW : w.heap.size ≤ W.heap.size) : Bs w.heap.size (W.alloc (.cells #[.int .u8 (n : Int)] 5)) (.slice (some ⟨W.heap.size, 0, none⟩) 1 1) [n] :=
  ⟨rfl, .inr ⟨W.heap.size, 1, #[.int .u8 (n : Int)], rfl, hW, heap_alloc_new _ _, by simp, by simp only [maxLen]; omega, rfl, rfl⟩⟩
theorem Bs.block {base : Nat} {w : World} {v : Value} {bs : List Nat} (h : Bs base w v bs) : ∀ k, v.ownBlock = some k → base ≤ k := by
  intro k hk
  rcases h.2 with ⟨h1, _⟩ | ⟨g, cap, cur, h1, h2, _⟩
  · rw [h1] at hk; cases hk
  · rw [h1] at hk; cases hk; exact h2
theorem row_one (W : World) (n : Nat) (t : TypeId) : ((W.alloc (.cells #[.int .u8 (n : Int)] t)).rowD W.heap.size).extract 0 (0 + [n].length) = encB [n] := by
  rw [rowD_al _ _ _ rfl]; rfl
theorem row_oneE (W : World) (n : Nat) (v : Int) (h : v = (n : Int)) (t : TypeId) : ((W.alloc (.cells #[.int .u8 v] t)).rowD W.heap.size).extract 0 (0 + [n].length) = encB [n] := by
  subst h; exact row_one W n t
theorem be_four (n : Nat) : be n 4 = [n / 16777216 % 256, n / 65536 % 256, n / 256 % 256, n % 256] := by simp [be, List.range, List.range.loop]
theorem flat_succ (pre : List Nat) (ps : List (List Nat)) (t : Nat) (h : t < ps.length) : pre ++ (ps.take (t + 1)).flatMap (fun p => be p.length 4 ++ p) = pre ++ (ps.take t).flatMap (fun p => be p.length 4 ++ p) ++ (be (ps[t]).length 4 ++ ps[t]) := by
  rw [List.take_succ_eq_append_getElem h]
  simp only [List.flatMap_append, List.flatMap_cons, List.flatMap_nil, List.append_nil, List.append_assoc]
theorem flat_le (pre : List Nat) (ps : List (List Nat)) (t : Nat) (h : t < ps.length) : (pre ++ (ps.take t).flatMap fun p => be p.length 4 ++ p).length + 4 + (ps[t]).length ≤ (pre ++ ps.flatMap fun p => be p.length 4 ++ p).length := by
  have h1 := congrArg List.length (flat_succ pre ps t h)
  have h2 : ps.flatMap (fun p => be p.length 4 ++ p) = (ps.take (t + 1)).flatMap (fun p => be p.length 4 ++ p) ++ (ps.drop (t + 1)).flatMap (fun p => be p.length 4 ++ p) := by
    rw [← List.flatMap_append, List.take_append_drop]
  rw [h2]
  simp only [List.length_append] at h1 ⊢
  have : (be (ps[t]).length 4).length = 4 := by simp [be]
  omega
set_option maxRecDepth 20000 in
set_option maxHeartbeats 1000000 in
theorem Image_any (name : List Nat) (st : ByteArray) (ps : List (List Nat)) (vs : List (Nat × Nat × Nat)) (q o c : Nat) (w : World) (hst : Lib.strCells st = name.map fun n : Nat => Value.int .u8 (n : Int)) (hsz : st.size = name.length) (hn : name.length ≤ 255) (hp0 : 0 < ps.length) (hp : ps.length ≤ 255)
    (hps : PartsAt w q o ps vs) (hlen : ∀ p ∈ ps, p.length < 4294967296) (hcap : ps.length ≤ c) (hlim : (image name ps).length ≤ 140737488355328) :
    Calls Tryd.prog 99 #[.string st, .slice (some ⟨q, o, none⟩) ps.length c] w fun e w' => ∃ v, e = .returned (.tuple #[v, .int .i64 0]) ∧ Bs w.heap.size w' v (image name ps) ∧ Below w.heap.size w w' := by
  go_enter Tryd.func99, Tryd.ntmps99
  go_wp2_with (first
    | (at_builtin; refine wpList_appS rfl _ _ rfl w.heap.size (.slice (some ⟨w.heap.size, 0, none⟩) 1 1) [name.length] name rfl (bs_one w w name.length (Nat.le_refl _)) st rfl hst hsz (by simp; omega) (by simp) ?_; intro v1 w1 hbs1 hgr1
       have bel1 : Below w.heap.size w w1 := ((Below.refl _ _).alloc (Nat.le_refl _) _).grown hgr1 (by simp) (bs_one w w name.length (Nat.le_refl _)).block
       clear hgr1)
    | (at_builtin; refine wpList_appB rfl _ _ rfl w.heap.size v1 ([name.length] ++ name) [ps.length] rfl (hbs1.below ((Below.refl _ _).alloc (Nat.le_refl _) _)) w1.heap.size 0 1 1 rfl rfl (row_one _ _ _) (by simp; omega) (Nat.le_trans bel1.size (by simp)) ?_; intro v2 w2 hbs2 hgr2
       have bel2 : Below w.heap.size w w2 := (bel1.alloc bel1.size _).grown hgr2 (Nat.le_trans bel1.size (by simp)) hbs1.block
       clear hgr2 hbs1 bel1))
  generalize hpre : [name.length] ++ name ++ [ps.length] = pre at hbs2
  have hprl : pre.length ≤ 257 := by rw [← hpre]; simp; omega
  go_loopw [6, 32] (fun v i wr => ∃ t : Nat, t ≤ ps.length ∧ i = .int .i64 t ∧ Bs w.heap.size wr v (pre ++ (ps.take t).flatMap fun p => be p.length 4 ++ p) ∧ Below w.heap.size w wr)
    (fun _ i _ => ps.length - (intOf i).toNat)
  case atStart => exact ⟨0, Nat.zero_le _, rfl, by simpa using hbs2, bel2⟩
  case round =>
    obtain ⟨t, ht, rfl, hbs, bel⟩ := hrel
    by_cases hend : t = ps.length
    · subst hend
      go_wp2_with fail
      go_ret2
      refine ⟨u6, rfl, ?_, bel⟩
      rw [List.take_length] at hbs
      unfold image
      rw [hpre]
      exact hbs
    · have ht' : t < ps.length := by omega
      have hql : q < wr.heap.size := Nat.lt_of_lt_of_le hps.lt bel.size
      obtain ⟨g, off, cg, hcell, hgl, hgr0⟩ := hps.cell t ht'
      rw [← rowD_congr (bel.block q hps.lt)] at hcell
      have hPl := hlen (ps[t]) (List.getElem_mem ht')
      have hbnd : (pre ++ (ps.take t).flatMap fun p => be p.length 4 ++ p).length + 4 + (ps[t]).length ≤ 140737488355328 := by
        have := flat_le pre ps t ht'
        have e : (image name ps).length = (pre ++ ps.flatMap fun p => be p.length 4 ++ p).length := by unfold image; rw [hpre]
        omega
      have hnext := flat_succ pre ps t ht'
      generalize hL : pre ++ (ps.take t).flatMap (fun p => be p.length 4 ++ p) = L at hbs hbnd hnext
      generalize hPP : ps[t] = pt at hcell hgr0 hPl hbnd hnext
      rw [be_four] at hnext
      generalize hP : pt.length = P at hcell hgr0 hPl hbnd hnext
      go_wp2_with fail
      refine wp_loop_rounds 5 ?_
      rw [rounds_succ]; go_wp2_with (first
        | (at_builtin; refine wpList_appB rfl _ _ rfl w.heap.size u6 (L) [P / 16777216 % 256] rfl (hbs.below ((Below.refl _ _).alloc (Nat.le_refl _) _)) wr.heap.size 0 1 1 rfl rfl (row_oneE _ (P / 16777216 % 256) _ (by omega) _) (by simp; omega) (Nat.le_trans bel.size (by simp)) ?_; intro u1 y1 hcs1 hgr
           have ble1 : Below w.heap.size w y1 := (bel.alloc bel.size _).grown hgr (Nat.le_trans bel.size (by simp)) hbs.block
           clear hgr))
      rw [rounds_succ]; go_wp2_with (first
        | (at_builtin; refine wpList_appB rfl _ _ rfl w.heap.size u1 (L ++ [P / 16777216 % 256]) [P / 65536 % 256] rfl (hcs1.below ((Below.refl _ _).alloc (Nat.le_refl _) _)) y1.heap.size 0 1 1 rfl rfl (row_oneE _ (P / 65536 % 256) _ (by omega) _) (by simp; omega) (Nat.le_trans ble1.size (by simp)) ?_; intro u2 y2 hcs2 hgr
           have ble2 : Below w.heap.size w y2 := (ble1.alloc ble1.size _).grown hgr (Nat.le_trans ble1.size (by simp)) hcs1.block
           clear hgr))
      rw [rounds_succ]; go_wp2_with (first
        | (at_builtin; refine wpList_appB rfl _ _ rfl w.heap.size u2 (L ++ [P / 16777216 % 256] ++ [P / 65536 % 256]) [P / 256 % 256] rfl (hcs2.below ((Below.refl _ _).alloc (Nat.le_refl _) _)) y2.heap.size 0 1 1 rfl rfl (row_oneE _ (P / 256 % 256) _ (by omega) _) (by simp; omega) (Nat.le_trans ble2.size (by simp)) ?_; intro u3 y3 hcs3 hgr
           have ble3 : Below w.heap.size w y3 := (ble2.alloc ble2.size _).grown hgr (Nat.le_trans ble2.size (by simp)) hcs2.block
           clear hgr))
      rw [rounds_succ]; go_wp2_with (first
        | (at_builtin; refine wpList_appB rfl _ _ rfl w.heap.size u3 (L ++ [P / 16777216 % 256] ++ [P / 65536 % 256] ++ [P / 256 % 256]) [P % 256] rfl (hcs3.below ((Below.refl _ _).alloc (Nat.le_refl _) _)) y3.heap.size 0 1 1 rfl rfl (row_oneE _ (P % 256) _ (by omega) _) (by simp; omega) (Nat.le_trans ble3.size (by simp)) ?_; intro u4 y4 hcs4 hgr
           have ble4 : Below w.heap.size w y4 := (ble3.alloc ble3.size _).grown hgr (Nat.le_trans ble3.size (by simp)) hcs3.block
           clear hgr))
      rw [rounds_succ]; go_wp2_with (first
        | (at_builtin; refine wpList_appB rfl _ _ rfl w.heap.size u4 (L ++ [P / 16777216 % 256] ++ [P / 65536 % 256] ++ [P / 256 % 256] ++ [P % 256]) pt rfl hcs4 g off P cg rfl hP.symm (by rw [rowD_congr (ble4.block g hgl), hP]; exact hgr0) (by simp; omega) ble4.size ?_; intro u5 y5 hcs5 hgr
           have ble5 : Below w.heap.size w y5 := ble4.grown hgr ble4.size hcs4.block
           clear hgr))
      refine ⟨⟨t + 1, by omega, by go_num, ?_, ble5⟩, by simp [intOf]; omega⟩
      rw [hnext]
      simpa using hcs5
theorem Of_any (name : List Nat) (st : ByteArray) (ps : List (List Nat)) (vs : List (Nat × Nat × Nat)) (q o c : Nat) (w : World) (hk : Keyed w) (hst : Lib.strCells st = name.map fun n : Nat => Value.int .u8 (n : Int)) (hsz : st.size = name.length) (hn : name.length ≤ 255) (hp0 : 0 < ps.length) (hp : ps.length ≤ 255)
    (hps : PartsAt w q o ps vs) (hlen : ∀ p ∈ ps, p.length < 4294967296) (hcap : ps.length ≤ c) (hlim : (image name ps).length ≤ 140737488355328) (hb : ∀ v ∈ image name ps, v < 256) :
    Calls Tryd.prog 65 #[.string st, .slice (some ⟨q, o, none⟩) ps.length c] w fun e w' => e = .returned (.agg (encH (tagOf name ps))) ∧ Below w.heap.size w w' := by
  go_enter Tryd.func65, Tryd.ntmps65
  go_wp2_with fail
  generalize hW : World.alloc w _ = W
  have own : Owns w W [(w.heap.size, encH zeroH)] := hW ▸ own_one w _ _
  clear hW
  have hBW := own.at1.2.1
  refine (Image_any name st ps vs q o c W hst hsz hn hp0 hp (hps.below own.below) hlen hcap hlim).mono ?_
  rintro e w1 ⟨v, rfl, hbs, hb1⟩
  have own1 := own.call hb1
  go_wp2_with fail
  obtain ⟨ao, cv, rfl, hat⟩ : ∃ ao cv, v = .slice ao (image name ps).length cv ∧ At w1 ao cv (image name ps) := by
    rcases hbs.2 with ⟨h1, h2⟩ | ⟨g, cap, cur, h1, h2, h3, h4, h5, h6, h7⟩
    · simp [image] at h2
    · refine ⟨_, _, h1, .inr ⟨g, 0, rfl, (Array.getElem?_eq_some_iff.1 h3).1, h4, ?_⟩⟩
      rw [rowD_of_heap h3]
      apply Array.toList_inj.1
      rw [Nat.mul_one] at h7
      simp only [encB, Array.toList_extract, List.extract_eq_take_drop, List.drop_zero, Nat.zero_add, Nat.sub_zero]
      exact h7
  refine (ShaOf_any (image name ps) cv ao w1 (hk.below own1.below) hat hb (by omega)).mono ?_
  rintro e w2 ⟨rfl, hb2⟩
  have own2 := own1.call hb2
  obtain ⟨-, lt1, row1, fr1⟩ := own2.at1
  go_wp2_with fail
  exact ret_cell rfl rfl rfl (rWH _ _ (tagOf name ps) (by rw [rowD_setCells_same, row1, spliceL_all _ _ (by rw [Array.length_toList, size_encH, size_encH])]; rfl)) ⟨rfl, below_setCells _ (by omega) _ _ _ _ own2.below⟩
end Go.Proofs.YtpoaakdljpdkfaaDoor

/- THE WALKS OF epoch. -/
set_option linter.unusedSimpArgs false
set_option linter.unusedVariables false
namespace Go.Proofs.YtpoaakdljpdkfaaDoor
open Go.RowKit Go.Alm
@[go_sem] theorem whole_h (x : H32) : (encH x).extract 0 32 = encH x := by rw [← size_encH x]; exact Array.extract_size
@[go_sem] theorem whole_c (x : C4) : (encC x).extract 0 4 = encC x := by rw [← size_encC x]; exact Array.extract_size
@[go_sem] theorem zcDt (x : Dt) : spliceL Tryd.zeroCells31 0 (encDt x).toList = encDt x := by
  rw [spliceL_all _ _ (by rw [Array.length_toList, size_encDt]; kernel_rfl)]
@[go_sem] theorem zcPr (x : Pr) : spliceL Tryd.zeroCells33 0 (encPr x).toList = encPr x := by
  rw [spliceL_all _ _ (by rw [Array.length_toList, size_encPr]; kernel_rfl)]
@[go_sem] theorem bldDtF (x0 : H32) (w : World) : (buildK 31 #[(0, .agg (encH x0)), (4, .int .u32 1)]).run Tryd.prog w = .ok (.value (.agg (encDt ⟨x0, zeroH, zeroH, zeroH, 1⟩))) w := by
  refine (bldDt #[(0, .agg (encH x0)), (4, .int .u32 ((1 : Nat) : Int))] ⟨⟨0, 32, rfl, size_encH _, by omega⟩, ⟨128, 1, rfl, rfl, by omega⟩, trivial⟩ w).trans ?_
  simp only [layAll, List.getElem?_toArray, List.getElem?_cons_zero, List.getElem?_cons_succ, Option.getD_some, Value.cells, spliceL, set_dt_ledger, set_dt_length]
  rfl
set_option maxRecDepth 40000 in
set_option maxHeartbeats 1000000 in
theorem First_any (h : H32) (w : World) :
    Calls Tryd.prog 68 #[.agg (encH h)] w fun e w' => e = .returned (.agg (encPr (firstP h))) ∧ Below w.heap.size w w' := by
  go_enter Tryd.func68, Tryd.ntmps68
  go_wp2_with fail
  generalize hW : World.alloc (World.alloc (World.alloc w _) _) _ = W
  have own := own_three w (encH h) (encPr (firstP h)) (encDt ⟨h, zeroH, zeroH, zeroH, 1⟩) 23 33 31
  replace own : Owns w W _ := hW ▸ own
  exact ret_cell rfl rfl rfl (rWPr _ _ (firstP h) own.at2.2.2.1) ⟨rfl, own.below⟩
end Go.Proofs.YtpoaakdljpdkfaaDoor

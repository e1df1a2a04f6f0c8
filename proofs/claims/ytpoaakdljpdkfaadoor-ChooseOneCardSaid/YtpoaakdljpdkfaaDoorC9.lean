/- WHAT A HASHER STANDS FOR: the bytes that it has taken in. -/
import Derived.Test.YtpoaakdljpdkfaaDoorC8
set_option linter.unusedSimpArgs false
set_option linter.unusedVariables false
namespace Go.Alm

theorem mixes_append : ∀ (n : Nat) (s b c : List Nat), 64 * n ≤ b.length → mixes n s (b ++ c) = mixes n s b
  | 0, _, _, _, _ => rfl
  | n + 1, s, b, c, h => by
    have h1 : 64 ≤ b.length := by omega
    simp only [mixes]
    rw [List.take_append_of_le_length h1, List.drop_append_of_le_length h1, mixes_append n _ _ _ (by simp; omega)]
theorem mixes_succ : ∀ (n : Nat) (s b : List Nat), mixes (n + 1) s b = mix (mixes n s b) ((b.drop (64 * n)).take 64)
  | 0, s, b => by simp [mixes]
  | n + 1, s, b => by
    rw [mixes, mixes_succ n, mixes, List.drop_drop, show 64 + 64 * n = 64 * (n + 1) by omega]
theorem lt_mix (s b : List Nat) : ∀ v ∈ mix s b, v < 4294967296 := by
  intro v hv
  unfold mix at hv
  rw [List.mem_iff_getElem] at hv
  obtain ⟨i, hi, rfl⟩ := hv
  rw [List.getElem_zipWith]
  exact Nat.mod_lt _ (by decide)
theorem lt_mixes : ∀ (n : Nat) (s b : List Nat), (∀ v ∈ s, v < 4294967296) → ∀ v ∈ mixes n s b, v < 4294967296
  | 0, _, _, h => h
  | n + 1, s, b, h => lt_mixes n _ _ (lt_mix s _)

/-- the hasher x has taken in the bytes m -/
structure Rep (m : List Nat) (x : Hs) : Prop where
  n : x.n = m.length
  s : x.s = mixes (m.length / 64) iv m
  bl : x.b.length = 64
  bb : ∀ v ∈ x.b, v < 256
  b : x.b.take (m.length % 64) = m.drop (64 * (m.length / 64))
  nb : m.length < 1152921504606846976
theorem Rep.ok {m : List Nat} {x : Hs} (h : Rep m x) : x.Ok :=
  ⟨by rw [h.s]; exact length_mixes _ _ _ rfl, h.bl, by rw [h.s]; exact lt_mixes _ _ _ (by decide), h.bb, by rw [h.n]; have := h.nb; omega⟩

/-- the buffer with a piece laid in -/
def lay (b piece : List Nat) (i : Nat) : List Nat := b.take i ++ piece ++ b.drop (i + piece.length)
theorem len_lay (b piece : List Nat) (i : Nat) (h : i + piece.length ≤ b.length) : (lay b piece i).length = b.length := by simp [lay]; omega
theorem mem_lay {b piece : List Nat} {i : Nat} {B : Nat} (hb : ∀ v ∈ b, v < B) (hp : ∀ v ∈ piece, v < B) : ∀ v ∈ lay b piece i, v < B := by
  intro v hv
  simp only [lay, List.mem_append] at hv
  rcases hv with (hv | hv) | hv
  · exact hb _ (List.mem_of_mem_take hv)
  · exact hp _ hv
  · exact hb _ (List.mem_of_mem_drop hv)

theorem Rep.part {m piece : List Nat} {x : Hs} (h : Rep m x) (hp : ∀ v ∈ piece, v < 256) (hl : m.length % 64 + piece.length < 64) (hn : m.length + piece.length < 1152921504606846976) :
    Rep (m ++ piece) ⟨x.s, lay x.b piece (m.length % 64), x.n + piece.length⟩ := by
  have h0 := h.bl
  have e1 : (m ++ piece).length / 64 = m.length / 64 := by simp; omega
  have e2 : (m ++ piece).length % 64 = m.length % 64 + piece.length := by simp; omega
  refine ⟨by simp [h.n], ?_, ?_, mem_lay h.bb hp, ?_, by simpa using hn⟩
  · show x.s = _
    rw [e1, mixes_append _ _ _ _ (by omega)]; exact h.s
  · show (lay _ _ _).length = 64
    rw [len_lay _ _ _ (by omega)]; exact h0
  · show (lay _ _ _).take _ = _
    rw [e1, e2, List.drop_append_of_le_length (by omega), ← h.b]
    unfold lay
    rw [List.take_append_of_le_length (by simp; omega), List.take_of_length_le (by simp; omega)]
theorem Rep.full {m piece : List Nat} {x : Hs} (h : Rep m x) (hp : ∀ v ∈ piece, v < 256) (hl : m.length % 64 + piece.length = 64) (hn : m.length + piece.length < 1152921504606846976) :
    Rep (m ++ piece) ⟨mix x.s (lay x.b piece (m.length % 64)), lay x.b piece (m.length % 64), x.n + piece.length⟩ := by
  have h0 := h.bl
  have e1 : (m ++ piece).length / 64 = m.length / 64 + 1 := by simp; omega
  have e2 : (m ++ piece).length % 64 = 0 := by simp; omega
  have e3 : lay x.b piece (m.length % 64) = m.drop (64 * (m.length / 64)) ++ piece := by
    unfold lay
    rw [hl, List.drop_of_length_le (by omega), List.append_nil, h.b]
  refine ⟨by simp [h.n], ?_, ?_, mem_lay h.bb hp, ?_, by simpa using hn⟩
  · show mix x.s _ = _
    rw [e1, mixes_succ, mixes_append _ _ _ _ (by omega), ← h.s, List.drop_append_of_le_length (by omega), e3, List.take_of_length_le (by simp; omega)]
  · show (lay _ _ _).length = 64
    rw [len_lay _ _ _ (by omega)]; exact h0
  · show (lay _ _ _).take _ = _
    rw [e2, e1]
    simp
    omega
end Go.Alm

/- THE WALKS OF sha: Write. -/
set_option linter.unusedSimpArgs false
set_option linter.unusedVariables false
namespace Go
open Go.RowKit
theorem run_copyE {P : Program} (w : World) (dT sT ty elem : TypeId) (b o dLen dCap g so sLen sCap n : Nat) (cs : Array Value) (hu : P.underlying dT = some (.slice elem)) (hs : (P.info? elem).map (·.size) = some 1) (hn : n = Nat.min sLen dLen)
    (hc : (w.rowD g).extract so (so + n) = cs) (hsz : cs.size = n) (hdst : o + n ≤ (w.rowD b).size) (hf : ∀ i, w.frozen? ⟨b, i, none⟩ = false) (h1 : ∀ v ∈ cs.toList, v.oneCell' = true) :
    (Builtin.copy_ #[dT, sT] ty #[.slice (some ⟨b, o, none⟩) dLen dCap, .slice (some ⟨g, so, none⟩) sLen sCap]).run P w = .ok (goInt n) (w.setCells b o cs.toList) := by
  have := run_copy_cells (P := P) w dT sT ty elem b o dLen dCap ⟨g, so, none⟩ sLen sCap cs.toList hu hs (by rw [Array.length_toList, hsz, hn]) (fun j v hv => by
      rw [addr_mid, cell_rowD]
      rw [← hc] at hv
      simp only [Array.getElem?_toList, Array.getElem?_extract] at hv
      split at hv
      · exact hv
      · cases hv) (fun j hj => by rw [cell_rowD, Array.getElem?_eq_getElem (by rw [Array.length_toList, hsz] at hj; omega)]; rfl) (fun j _ => hf _) h1
  rw [Array.length_toList, hsz] at this
  exact this
end Go
namespace Go.Alm
open Go.RowKit
theorem set_hs_b (x : Hs) (h : x.Ok) (i : Nat) (piece : List Nat) (hi : i + piece.length ≤ 64) : spliceL (encHs x) (8 + i) (encB piece).toList = encHs { x with b := lay x.b piece i } := by
  have h1 := h.sl; have h2 := h.bl
  rw [spliceL_eq _ _ _ (by rw [size_encHs x h]; simp; omega)]
  apply Array.toList_inj.1
  simp only [encHs, encB, lay, List.map_append, List.map_take, List.map_drop]
  rw [List.take_append, List.drop_append, List.length_map, List.length_map, h1]
  simp only [List.take_of_length_le (show (x.s.map (fun n : Nat => Value.int .u32 (n : Int))).length ≤ 8 + i by simp; omega)]
  rw [List.drop_of_length_le (show (x.s.map (fun n : Nat => Value.int .u32 (n : Int))).length ≤ 8 + i + piece.length by simp; omega), List.nil_append]
  rw [show 8 + i - 8 = i by omega, show 8 + i + piece.length - 8 = i + piece.length by omega]
  rw [List.take_append_of_le_length (by simp; omega), List.drop_append_of_le_length (by simp; omega)]
  simp only [List.append_assoc]
theorem set_hs_n (x : Hs) (h : x.Ok) (v : Nat) : (encHs x).setIfInBounds 72 (.int .u64 (v : Int)) = encHs { x with n := v } := by
  have h1 := h.sl; have h2 := h.bl
  apply Array.toList_inj.1
  simp [encHs, List.set_append, h1, h2]
/-- where bytes lie that are to be read -/
structure Src (w : World) (p : Nat) (ao : Option Addr) (q o c : Nat) (bs : List Nat) : Prop where
  at_ : ao = some ⟨q, o, none⟩
  ne : q ≠ p
  lt : q < w.heap.size
  cap : bs.length ≤ c
  row : (w.rowD q).extract o (o + bs.length) = encB bs
theorem extract_encB {c : Array Value} {o : Nat} {bs : List Nat} (h : c.extract o (o + bs.length) = encB bs) (k n : Nat) (hk : k + n ≤ bs.length) : c.extract (o + k) (o + k + n) = encB ((bs.drop k).take n) := by
  have e : c.extract (o + k) (o + k + n) = (c.extract o (o + bs.length)).extract k (k + n) := by
    rw [Array.extract_extract]
    congr 1
    omega
  rw [e, h]
  apply Array.toList_inj.1
  simp [encB, List.extract_eq_take_drop, List.map_take, List.map_drop]
end Go.Alm
namespace Go.Proofs.YtpoaakdljpdkfaaDoor
open Go.RowKit Go.Alm
theorem slice64l (p o t : Nat) (ht : t < 64) (w : World) : (Instr.sliceAt 232 (.pointer (some ⟨p, o, none⟩)) (some (.int .i64 (t : Int))) none none).run Tryd.prog w = .ok (.slice (some ⟨p, o + t, none⟩) (64 - t) (64 - t)) w := by
  have hu : Tryd.prog.underlying 232 = some (.array (Tryd.prog.arrayLen 232) (Tryd.prog.elem 232)) := by kernel_rfl
  have hn : Tryd.prog.arrayLen 232 = 64 := by kernel_rfl
  have hs : ∀ w, (Go.sizeOf (Tryd.prog.elem 232)).run Tryd.prog w = .ok 1 w := fun _ => by kernel_rfl
  rw [run_sliceAt_array_l w _ _ hu _ _ (by omega) (by rw [hn]; omega), hs, hn]
  simp only [Result.andThen_ok, slicedAt, show ((t : Int).toNat) = t by omega, if_neg (show ¬ 64 = t by omega), Nat.mul_one, addr_mid]

set_option maxRecDepth 20000 in
set_option maxHeartbeats 1000000 in
theorem Write_any (x : Hs) (m bs : List Nat) (p q o c : Nat) (ao : Option Addr) (w : World) (hx : Rep m x) (hlen : m.length + bs.length < 1152921504606846976) (hk : Keyed w) (hp : p < w.heap.size) (hpk : kg ≠ p) (row : w.rowD p = encHs x) (fr : ∀ i, w.frozen? ⟨p, i, none⟩ = false)
    (hb : ∀ v ∈ bs, v < 256) (hs : bs = [] ∨ Src w p ao q o c bs) :
    Calls Tryd.prog 122 #[.pointer (some ⟨p, 0, none⟩), .slice ao bs.length c] w fun e w' => e = .returned (.tuple #[]) ∧ Kept p w w' ∧ ∃ x', Rep (m ++ bs) x' ∧ w'.rowD p = encHs x' := by
  go_enter Tryd.func122, Tryd.ntmps122
  go_wp2_with fail
  go_loopw [1] (fun i wr => ∃ (k : Nat) (x' : Hs) (ai : Option Addr) (ci : Nat), k ≤ bs.length ∧ i = .slice ai (bs.length - k) ci ∧ (k < bs.length → ai = some ⟨q, o + k, none⟩ ∧ bs.length - k ≤ ci) ∧ Kept p w wr ∧ wr.rowD p = encHs x' ∧ Rep (m ++ bs.take k) x')
    (fun i _ => match i with | .slice _ n _ => n | _ => 0)
  case atStart => exact ⟨0, x, ao, c, Nat.zero_le _, rfl, fun h0 => by
      rcases hs with rfl | hs
      · cases h0
      · exact ⟨hs.at_, hs.cap⟩, Kept.refl _ _, row, by simpa using hx⟩
  case round =>
    obtain ⟨k, x', ai, ci, hkl, rfl, hai, hkp, rowp, hrep⟩ := hrel
    have hok := hrep.ok
    have hltp : p < wr.heap.size := Nat.lt_of_lt_of_le hp hkp.size
    have frp : ∀ i, wr.frozen? ⟨p, i, none⟩ = false := fun i => (hkp.frozen i).trans (fr i)
    by_cases hend : k = bs.length
    · subst hend
      go_wp2_with fail
      exact bodyPost_end (results_none rfl _ _ _) rfl ⟨rfl, hkp, x', by simpa using hrep, rowp⟩
    · obtain ⟨rfl, hci⟩ := hai (by omega)
      have hs' : Src w p ao q o c bs := by
        rcases hs with rfl | hs
        · simp at hkl hend; exact absurd hkl hend
        · exact hs
      have g72 := hs_n x' hok
      have hsz := size_encHs x' hok
      have hxn := hrep.n
      have hml : (m ++ bs.take k).length = m.length + k := by simp; omega
      generalize hM : m ++ bs.take k = M at *
      have hR : ∀ _ : Unit, bs.length - k = bs.length - k := fun _ => rfl
      have hrow := extract_encB hs'.row k
      have hqr : wr.rowD q = w.rowD q := hkp.rowD hs'.lt hs'.ne
      have hqn := hs'.ne
      have hql : q < wr.heap.size := Nat.lt_of_lt_of_le hs'.lt hkp.size
      obtain ⟨R, hRk⟩ : ∃ R, R = bs.length - k := ⟨_, rfl⟩
      obtain ⟨N, hN⟩ : ∃ N, N = M.length := ⟨_, rfl⟩
      obtain ⟨n, hn⟩ : ∃ n, n = min R (64 - N % 64) := ⟨_, rfl⟩
      have n0 : 0 < n := by omega
      have n1 : n ≤ R := by omega
      have n2 : N % 64 + n ≤ 64 := by omega
      have n3 : N + n < 1152921504606846976 := by omega
      have n4 : n ≤ ci := by omega
      have hpl : ((bs.drop k).take n).length = n := by simp; omega
      have hpb : ∀ v ∈ (bs.drop k).take n, v < 256 := fun v hv => hb v (List.mem_of_mem_drop (List.mem_of_mem_take hv))
      have hext := hrow n (by omega)
      have htk : bs.take k ++ (bs.drop k).take n = bs.take (k + n) := by rw [List.take_add]
      have hcat : M ++ (bs.drop k).take n = m ++ bs.take (k + n) := by rw [← hM, List.append_assoc, htk]
      rw [← hRk] at hci hR ⊢
      rw [← hN] at hxn hml
      have hs64 := slice64l p 8 (N % 64) (by omega)
      rw [show ((N % 64 : Nat) : Int) = (N : Int) % 64 by omega] at hs64
      have hg : ∀ _ : Unit, N = M.length := fun _ => hN
      have hlay := set_hs_b x' hok (N % 64) ((bs.drop k).take n) (by omega)
      have hcp := fun ty => run_copyE (P := Tryd.prog) wr 124 124 ty 5 p (8 + N % 64) (64 - N % 64) (64 - N % 64) q (o + k) R ci n (encB ((bs.drop k).take n)) (by kernel_rfl) (by kernel_rfl) (by rw [hn])
        (by rw [hqr]; exact hext) (by rw [size_encB, hpl]) (by rw [rowp, size_encHs x' hok]; omega) frp (one_encB _)
      have hok2 : Hs.Ok { x' with b := lay x'.b ((bs.drop k).take n) (N % 64) } := ⟨hok.sl, by show (lay _ _ _).length = 64; rw [len_lay _ _ _ (by rw [hok.bl]; omega)]; exact hok.bl, hok.sb, mem_lay hok.bb hpb, hok.nb⟩
      have g72 := hs_n x' hok
      have g72b := hs_n _ hok2
      have hset := set_hs_n _ hok2 (N + n)
      have hsz2 := size_encHs _ hok2
      rw [hxn] at g72
      simp only [hxn] at g72b
      rw [Int.natCast_add] at hset
      have g72v : ∀ h : 72 < (encHs x').size, (encHs x')[72]'h = .int .u64 (N : Nat) := fun h => Option.some.inj ((Array.getElem?_eq_getElem h).symm.trans g72)
      have hRk' : ∀ _ : Unit, R = bs.length - k ∧ k ≤ bs.length := fun _ => ⟨hRk, hkl⟩
      clear hn hRk hN htk hext hrow hend hkl hM hml hai hR
      generalize hPP : (bs.drop k).take n = P at *
      by_cases hfull : N % 64 + n = 64
      · by_cases hcin : ci = n
        · have hcin' := hcin.symm
          subst hcin'
          have hrow4 : ((wr.setCells p (8 + N % 64) (encB P).toList).setCell ⟨p, 72, none⟩ (.int .u64 ((N : Int) + (n : Int)))).rowD p = encHs ⟨x'.s, lay x'.b P (N % 64), N + n⟩ := by
            rw [rowD_setCell_same, rowD_setCells_same, rowp, hlay]; exact hset
          have hkp4 := (hkp.setCells (encB P).toList (8 + N % 64)).setCell 72 (.int .u64 ((N : Int) + (n : Int)))
          have hok3 : Hs.Ok ⟨x'.s, lay x'.b P (N % 64), N + n⟩ := ⟨hok2.sl, hok2.bl, hok2.sb, hok2.bb, by show N + n < _; omega⟩
          have hrep4 := Rep.full hrep hpb (by rw [← hg (), hpl]; omega) (by rw [← hg (), hpl]; omega)
          rw [hpl, hcat, hxn, ← hg ()] at hrep4
          go_wp2_with fail
          refine (mix_any _ p _ hok3 (hk.kept hkp4 hpk) (Nat.lt_of_lt_of_le hp hkp4.size) hpk hrow4 (fun i => (hkp4.frozen i).trans (fr i))).mono ?_
          rintro e w5 ⟨rfl, hkp5, row5⟩
          go_wp2_with fail
          have hRk := hRk' ()
          refine ⟨⟨k + n, _, _, _, by omega, congrArg (fun z => Value.slice _ z _) (show 0 = bs.length - (k + n) by omega), ?_, hkp4.trans hkp5, row5, hrep4⟩, (show 0 < R by omega)⟩
          intro h; omega
        · have hcin' : n < ci := by omega
          have hrow4 : ((wr.setCells p (8 + N % 64) (encB P).toList).setCell ⟨p, 72, none⟩ (.int .u64 ((N : Int) + (n : Int)))).rowD p = encHs ⟨x'.s, lay x'.b P (N % 64), N + n⟩ := by
            rw [rowD_setCell_same, rowD_setCells_same, rowp, hlay]; exact hset
          have hkp4 := (hkp.setCells (encB P).toList (8 + N % 64)).setCell 72 (.int .u64 ((N : Int) + (n : Int)))
          have hok3 : Hs.Ok ⟨x'.s, lay x'.b P (N % 64), N + n⟩ := ⟨hok2.sl, hok2.bl, hok2.sb, hok2.bb, by show N + n < _; omega⟩
          have hrep4 := Rep.full hrep hpb (by rw [← hg (), hpl]; omega) (by rw [← hg (), hpl]; omega)
          rw [hpl, hcat, hxn, ← hg ()] at hrep4
          go_wp2_with fail
          refine (mix_any _ p _ hok3 (hk.kept hkp4 hpk) (Nat.lt_of_lt_of_le hp hkp4.size) hpk hrow4 (fun i => (hkp4.frozen i).trans (fr i))).mono ?_
          rintro e w5 ⟨rfl, hkp5, row5⟩
          go_wp2_with fail
          have hRk := hRk' ()
          refine ⟨⟨k + n, _, _, _, by omega, congrArg (fun z => Value.slice _ z _) (show R - n = bs.length - (k + n) by omega), ?_, hkp4.trans hkp5, row5, hrep4⟩, (show R - n < R by omega)⟩
          intro h; exact ⟨by rw [Nat.add_assoc], by omega⟩
      · by_cases hcin : ci = n
        · have hcin' := hcin.symm
          subst hcin'
          have hrow4 : ((wr.setCells p (8 + N % 64) (encB P).toList).setCell ⟨p, 72, none⟩ (.int .u64 ((N : Int) + (n : Int)))).rowD p = encHs ⟨x'.s, lay x'.b P (N % 64), N + n⟩ := by
            rw [rowD_setCell_same, rowD_setCells_same, rowp, hlay]; exact hset
          have hkp4 := (hkp.setCells (encB P).toList (8 + N % 64)).setCell 72 (.int .u64 ((N : Int) + (n : Int)))
          have hrep4 := Rep.part hrep hpb (by rw [← hg (), hpl]; omega) (by rw [← hg (), hpl]; omega)
          rw [hpl, hcat, hxn, ← hg ()] at hrep4
          go_wp2_with fail
          have hRk := hRk' ()
          refine ⟨⟨k + n, _, _, _, by omega, congrArg (fun z => Value.slice _ z _) (show 0 = bs.length - (k + n) by omega), ?_, hkp4, hrow4, hrep4⟩, (show 0 < R by omega)⟩
          intro h; omega
        · have hcin' : n < ci := by omega
          have hrow4 : ((wr.setCells p (8 + N % 64) (encB P).toList).setCell ⟨p, 72, none⟩ (.int .u64 ((N : Int) + (n : Int)))).rowD p = encHs ⟨x'.s, lay x'.b P (N % 64), N + n⟩ := by
            rw [rowD_setCell_same, rowD_setCells_same, rowp, hlay]; exact hset
          have hkp4 := (hkp.setCells (encB P).toList (8 + N % 64)).setCell 72 (.int .u64 ((N : Int) + (n : Int)))
          have hrep4 := Rep.part hrep hpb (by rw [← hg (), hpl]; omega) (by rw [← hg (), hpl]; omega)
          rw [hpl, hcat, hxn, ← hg ()] at hrep4
          go_wp2_with fail
          have hRk := hRk' ()
          refine ⟨⟨k + n, _, _, _, by omega, congrArg (fun z => Value.slice _ z _) (show R - n = bs.length - (k + n) by omega), ?_, hkp4, hrow4, hrep4⟩, (show R - n < R by omega)⟩
          intro h; exact ⟨by rw [Nat.add_assoc], by omega⟩
end Go.Proofs.YtpoaakdljpdkfaaDoor

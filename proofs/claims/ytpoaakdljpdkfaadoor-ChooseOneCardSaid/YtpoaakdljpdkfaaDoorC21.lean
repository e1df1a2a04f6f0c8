/- THE ITERATOR's CLOSURE. -/
import Derived.Test.YtpoaakdljpdkfaaDoorC20
import Derived.Test.YtpoaakdljpdkfaaDoorMix
set_option linter.unusedSimpArgs false
set_option linter.unusedVariables false
namespace Go
attribute [go_sem] Oper.holdAt Oper.holdUpon Oper.calmUponIn
end Go
namespace Go.Proofs.YtpoaakdljpdkfaaDoor
open Go.RowKit Go.Alm Go.Shelf
attribute [local go_sem] Oper.semAt_some
def dataFld (b : Nat) : List Fld := [.h b, .h (b + 32), .h (b + 64), .h (b + 96), .n (b + 128)]
def stFld : List Fld := [.h 0, .h 32, .h 64, .n 96, .n 97, .n 98, .n 99, .n 100, .n 101, .n 102, .n 103, .n 104] ++ dataFld 105 ++ dataFld 234
theorem roundIn_any {n m : Nat} {P : Program} {l : Nat} {f : FuncId} {tmps : Array Value} {assign body : Code} {w : World} {R : Ending → World → Prop} (h : RoundIn Fence.wide n P l f tmps assign body w R) : RoundIn Fence.wide m P l f tmps assign body w R :=
  ⟨h.1, fun c cs _ => h.2 c cs (room_wide _)⟩
theorem yieldAt_any {n m : Nat} {P : Program} {l : Nat} {args : Array Value} {w : World} {R : Ending → World → Prop} (h : YieldAt Fence.wide n P l args w R) : YieldAt Fence.wide m P l args w R := by
  obtain ⟨fn, tmps, assign, body, h1, h2⟩ := h
  exact ⟨fn, tmps, assign, body, h1, roundIn_any h2⟩
/-- the worlds in which the closure goes on -/
structure PartsC (q Bs Y : Nat) (l : Nat) (W : World) : Prop where
  b : W.heap[Bs]? = some (Obj.cells #[.pointer (some ⟨q, 0, none⟩)] 204 (0, 0))
  y : W.heap[Y]? = some (Obj.cells #[.func (.yield l) #[] #[]] 205 (0, 0))
theorem PartsC.kp {q Bs Y l : Nat} {W W' : World} (h : PartsC q Bs Y l W) (hk : KpT W W') : PartsC q Bs Y l W' :=
  ⟨hk.same _ _ _ _ (by simp [itType]) h.b, hk.same _ _ _ _ (by simp [itType]) h.y⟩
theorem PartsC.below {q Bs Y l : Nat} (W W' : World) (h : PartsC q Bs Y l W) (hb : Below W.heap.size W W') : PartsC q Bs Y l W' := h.kp (KpT.of_below hb)
set_option maxRecDepth 100000 in
set_option maxHeartbeats 4000000 in
theorem closure_in (n l q Bs : Nat) (J Jx : List Fld → World → Prop)
    (hJ : ∀ s W W', J s W → Below W.heap.size W W' → J s W') (hJx : ∀ s W W', Jx s W → Below W.heap.size W W' → Jx s W')
    (hY : ∀ m pre x W1, x ∈ stFld → J pre W1 → pre.length < 22 → YieldAt Fence.wide m Tryd.prog l (fldEnc q x) W1 fun e W' => (e = .returned (.bool true) ∧ J (pre ++ [x]) W' ∧ KpT W1 W') ∨ (e = .returned (.bool false) ∧ Jx (pre ++ [x]) W'))
    (W : World) (hBs : W.heap[Bs]? = some (Obj.cells #[.pointer (some ⟨q, 0, none⟩)] 204 (0, 0))) (h0 : J [] W) :
    CallsIn Fence.wide n Tryd.prog 124 #[.func (.yield l) #[] #[], .pointer (some ⟨Bs, 0, none⟩)] W fun e W' =>
      (∃ v, e = .returned v) ∧ (J stFld W' ∨ ∃ pre, Jx pre W') := by
  refine callsIn_of_wp Tryd.func124 rfl trivial ?_ rfl
  simp only [Tryd.ntmps124, List.size_toArray, List.length_cons, List.length_nil, Nat.reduceAdd, Nat.reduceSub, Array.replicate_succ, Array.replicate_zero, List.push_toArray, List.append_toArray, List.nil_append, List.cons_append]
  have g1 := rowD_of_heap hBs
  have g2 := (Array.getElem?_eq_some_iff.1 hBs).1
  gi_wp2
  have hC : PartsC q Bs W.heap.size l (W.alloc (.cells #[.func (.yield l) #[] #[]] 205)) := ⟨(Below.heap_alloc W _ Bs g2).trans hBs, heap_alloc_new _ _⟩
  have hJ0 := hJ _ _ _ h0 ((Below.refl W.heap.size W).alloc (Nat.le_refl _) (.cells #[.func (.yield l) #[] #[]] 205))
  generalize W.alloc (.cells #[.func (.yield l) #[] #[]] 205) = W1 at hC hJ0 ⊢
  generalize W.heap.size = Y at hC ⊢
  clear g1 g2 hBs h0
  refine wpIn_region_seg rfl [[true, true, true, true, true, true, true, true, true, true, false, false], [true, true, true, true, true, true, true, true, true, true, true, true, true, true, true, true, true, true, true, true, true, true, true, true, true, true, true, true, true, true, true, true, true, true, true, false, false], [true, true]] (by kernel_rfl) (by kernel_rfl) ?_
  intro W2 hb2
  replace hJ0 := hJ _ _ _ hJ0 hb2
  replace hC := hC.below _ _ hb2
  refine wpSegIn_cons (PartsC q Bs Y l) PartsC.below hC (fun KS hKS => ?_)
  clear hb2
  iterate 10 (refine wpMixEIn_q rfl (fun _ => rfl) (fun K hK => ?_); refine ⟨_, (fun Wq hWq => by obtain ⟨hb, hy⟩ := hWq; have g1 := rowD_of_heap hb; have g2 := (Array.getElem?_eq_some_iff.1 hb).1; go_simp; exact rfl), ?_⟩; go_simp; refine hK _ ?_; clear hK K)
  refine wpMixEIn_s rfl (fun Wx hbx K hK => ?_)
  replace hC := hC.below _ _ hbx
  replace hJ0 := hJ _ _ _ hJ0 hbx
  refine ⟨fun _ _ => trivial, ?_⟩
  go_simp
  have hbz := (Below.refl Wx.heap.size Wx).alloc (Nat.le_refl _) (.cells #[Value.pointer (some ⟨q, 0, none⟩), Value.pointer (some ⟨q, 32, none⟩), Value.pointer (some ⟨q, 64, none⟩)] 175)
  replace hC := hC.below _ _ hbz
  replace hJ0 := hJ _ _ _ hJ0 hbz
  have hs := heap_alloc_new Wx (.cells #[Value.pointer (some ⟨q, 0, none⟩), Value.pointer (some ⟨q, 32, none⟩), Value.pointer (some ⟨q, 64, none⟩)] 175)
  refine hK _ _ (.inr hC) ?_; clear hK K
  generalize Wx.alloc _ = Wz at hC hJ0 hs ⊢
  generalize Wx.heap.size = s at hs ⊢
  clear hbz hbx
  refine wpMixEIn_s rfl (fun Wy hby K hK => ?_)
  replace hC := hC.below _ _ hby
  replace hJ0 := hJ _ _ _ hJ0 hby
  replace hs := (hby.block s (Array.getElem?_eq_some_iff.1 hs).1).trans hs
  clear hby
  refine ⟨fun _ _ => trivial, ?_⟩
  go_simp
  refine ⟨(fun h => by cases h), (hashes_in (n - 1) l q 22 stFld J Jx (hY _) [0, 32, 64] [] (by simp [stFld, dataFld]) (by simp) (by simp) s 3 Y Wy hC.y hs hJ0).mono ?_⟩
  clear hs
  rintro e W6 (⟨rfl, hJ6, hk6⟩ | ⟨rfl, pre', hJx6⟩)
  rotate_left
  ·
    refine ⟨_, rfl, hK _ _ (.inl rfl) ?_⟩; clear hK K
    clear hJ0 hC
    refine wpMixEIn_nil (fun W7 hb7 => hKS _ _ ?_); clear hKS KS
    replace hJx6 := hJx _ _ _ hJx6 hb7
    clear hb7
    refine wpSegIn_cons (fun _ => True) (fun _ _ h _ => h) trivial (fun KS hKS => ?_)
    iterate 2 (refine wpMixEIn_q rfl (fun _ => rfl) (fun K hK => ?_); refine ⟨_, (fun Wq hWq => by go_simp; exact rfl), ?_⟩; go_simp; refine hK _ ?_; clear hK K)
    iterate 33 (refine wpMixEIn_qn (fun _ => rfl) rfl (fun K hK => ?_); go_simp; refine hK _ ?_; clear hK K)
    iterate 2 (refine wpMixEIn_sn rfl (fun _ => rfl) (fun Wn hbn K hK => ?_); replace hJx6 := hJx _ _ _ hJx6 hbn; go_simp; refine hK _ _ (.inr trivial) ?_; clear hK K hbn)
    refine wpMixEIn_nil (fun W7 hb7 => hKS _ _ ?_); clear hKS KS
    replace hJx6 := hJx _ _ _ hJx6 hb7
    clear hb7
    refine wpSegIn_cons (fun _ => True) (fun _ _ h _ => h) trivial (fun KS hKS => ?_)
    iterate 1 (refine wpMixEIn_qn (fun _ => rfl) rfl (fun K hK => ?_); go_simp; refine hK _ ?_; clear hK K)
    iterate 1 (refine wpMixEIn_q rfl (fun _ => rfl) (fun K hK => ?_); refine ⟨_, (fun Wq hWq => by go_simp; exact rfl), ?_⟩; go_simp; refine hK _ ?_; clear hK K)
    refine wpMixEIn_nil (fun W7 hb7 => hKS _ _ ?_); clear hKS KS
    replace hJx6 := hJx _ _ _ hJx6 hb7
    refine wpSegIn_nil (fun W8 hb8 => ?_)
    replace hJx6 := hJx _ _ _ hJx6 hb8
    gi_wp2
    exact bodyPost_ret (results_none rfl _ _ _) rfl ⟨⟨_, rfl⟩, .inr ⟨_, hJx6⟩⟩
  refine ⟨_, rfl, hK _ _ (.inl rfl) ?_⟩; clear hK K
  replace hC := hC.kp hk6
  clear hJ0 hk6
  refine wpMixEIn_nil (fun W7 hb7 => hKS _ _ ?_); clear hKS KS
  replace hC := hC.below _ _ hb7
  have hJ0 := hJ _ _ _ hJ6 hb7
  clear hJ6 hb7
  refine wpSegIn_cons (PartsC q Bs Y l) PartsC.below hC (fun KS hKS => ?_)
  iterate 2 (refine wpMixEIn_q rfl (fun _ => rfl) (fun K hK => ?_); refine ⟨_, (fun Wq hWq => by obtain ⟨hb, hy⟩ := hWq; have g1 := rowD_of_heap hb; have g2 := (Array.getElem?_eq_some_iff.1 hb).1; go_simp; exact rfl), ?_⟩; go_simp; refine hK _ ?_; clear hK K)
  iterate 33 (refine wpMixEIn_qy (fun _ => rfl) rfl (fun K hK => ?_); refine ⟨_, (fun Wq hWq => by obtain ⟨hb, hy⟩ := hWq; have g1 := rowD_of_heap hb; have g2 := (Array.getElem?_eq_some_iff.1 hb).1; go_simp; exact rfl), ?_⟩; go_simp; refine hK _ ?_; clear hK K)
  refine wpMixEIn_sy rfl (fun Wx hbx K hK => ?_)
  replace hC := hC.below _ _ hbx
  replace hJ0 := hJ _ _ _ hJ0 hbx
  refine ⟨fun _ _ => trivial, ?_⟩
  go_simp
  have hbz := (Below.refl Wx.heap.size Wx).alloc (Nat.le_refl _) (.cells #[Value.pointer (some ⟨q, 96, none⟩), Value.pointer (some ⟨q, 97, none⟩), Value.pointer (some ⟨q, 98, none⟩), Value.pointer (some ⟨q, 99, none⟩), Value.pointer (some ⟨q, 100, none⟩), Value.pointer (some ⟨q, 101, none⟩), Value.pointer (some ⟨q, 102, none⟩), Value.pointer (some ⟨q, 103, none⟩), Value.pointer (some ⟨q, 104, none⟩)] 176)
  replace hC := hC.below _ _ hbz
  replace hJ0 := hJ _ _ _ hJ0 hbz
  have hs := heap_alloc_new Wx (.cells #[Value.pointer (some ⟨q, 96, none⟩), Value.pointer (some ⟨q, 97, none⟩), Value.pointer (some ⟨q, 98, none⟩), Value.pointer (some ⟨q, 99, none⟩), Value.pointer (some ⟨q, 100, none⟩), Value.pointer (some ⟨q, 101, none⟩), Value.pointer (some ⟨q, 102, none⟩), Value.pointer (some ⟨q, 103, none⟩), Value.pointer (some ⟨q, 104, none⟩)] 176)
  refine hK _ _ (.inr hC) ?_; clear hK K
  generalize Wx.alloc _ = Wz at hC hJ0 hs ⊢
  generalize Wx.heap.size = s at hs ⊢
  clear hbz hbx
  refine wpMixEIn_sy rfl (fun Wy hby K hK => ?_)
  replace hC := hC.below _ _ hby
  replace hJ0 := hJ _ _ _ hJ0 hby
  replace hs := (hby.block s (Array.getElem?_eq_some_iff.1 hs).1).trans hs
  clear hby
  refine ⟨fun _ _ => trivial, ?_⟩
  go_simp
  refine ⟨(fun h => by cases h), (nums_in (n - 1) l q 22 stFld J Jx (hY _) [96, 97, 98, 99, 100, 101, 102, 103, 104] _ (by simp [stFld, dataFld]) (by simp) (by simp) s 9 Y Wy hC.y hs hJ0).mono ?_⟩
  clear hs
  rintro e W6 (⟨rfl, hJ6, hk6⟩ | ⟨rfl, pre', hJx6⟩)
  rotate_left
  ·
    refine ⟨_, rfl, hK _ _ (.inl rfl) ?_⟩; clear hK K
    clear hJ0 hC
    refine wpMixEIn_nil (fun W7 hb7 => hKS _ _ ?_); clear hKS KS
    replace hJx6 := hJx _ _ _ hJx6 hb7
    clear hb7
    refine wpSegIn_cons (fun _ => True) (fun _ _ h _ => h) trivial (fun KS hKS => ?_)
    iterate 1 (refine wpMixEIn_qy (fun _ => rfl) rfl (fun K hK => ?_); refine ⟨_, (fun Wq hWq => by go_simp; exact rfl), ?_⟩; go_simp; refine hK _ ?_; clear hK K)
    iterate 1 (refine wpMixEIn_q rfl (fun _ => rfl) (fun K hK => ?_); refine ⟨_, (fun Wq hWq => by go_simp; exact rfl), ?_⟩; go_simp; refine hK _ ?_; clear hK K)
    refine wpMixEIn_nil (fun W7 hb7 => hKS _ _ ?_); clear hKS KS
    replace hJx6 := hJx _ _ _ hJx6 hb7
    refine wpSegIn_nil (fun W8 hb8 => ?_)
    replace hJx6 := hJx _ _ _ hJx6 hb8
    gi_wp2
    exact bodyPost_ret (results_none rfl _ _ _) rfl ⟨⟨_, rfl⟩, .inr ⟨_, hJx6⟩⟩
  refine ⟨_, rfl, hK _ _ (.inl rfl) ?_⟩; clear hK K
  replace hC := hC.kp hk6
  clear hJ0 hk6
  refine wpMixEIn_nil (fun W7 hb7 => hKS _ _ ?_); clear hKS KS
  replace hC := hC.below _ _ hb7
  have hJ0 := hJ _ _ _ hJ6 hb7
  clear hJ6 hb7
  refine wpSegIn_cons (PartsC q Bs Y l) PartsC.below hC (fun KS hKS => ?_)
  iterate 1 (refine wpMixEIn_qy (fun _ => rfl) rfl (fun K hK => ?_); refine ⟨_, (fun Wq hWq => by obtain ⟨hb, hy⟩ := hWq; have g1 := rowD_of_heap hb; have g2 := (Array.getElem?_eq_some_iff.1 hb).1; go_simp; exact rfl), ?_⟩; go_simp; refine hK _ ?_; clear hK K)
  iterate 1 (refine wpMixEIn_q rfl (fun _ => rfl) (fun K hK => ?_); refine ⟨_, (fun Wq hWq => by obtain ⟨hb, hy⟩ := hWq; have g1 := rowD_of_heap hb; have g2 := (Array.getElem?_eq_some_iff.1 hb).1; go_simp; exact rfl), ?_⟩; go_simp; refine hK _ ?_; clear hK K)
  refine wpMixEIn_nil (fun W7 hb7 => hKS _ _ ?_); clear hKS KS
  replace hC := hC.below _ _ hb7
  replace hJ0 := hJ _ _ _ hJ0 hb7
  refine wpSegIn_nil (fun W8 hb8 => ?_)
  replace hC := hC.below _ _ hb8
  replace hJ0 := hJ _ _ _ hJ0 hb8
  clear hb7 hb8
  gi_wp2
  refine wpIn_region_ord rfl [(true, 0), (true, 1), (true, 2), (true, 3), (true, 4), (true, 5), (true, 6), (true, 7), (true, 10), (false, 8), (false, 9)] (PartsC q Bs Y l) PartsC.below hC (by kernel_rfl) (by kernel_rfl) ?_
  intro W9 hb9 hC9
  replace hJ0 := hJ _ _ _ hJ0 hb9
  clear hC hb9
  iterate 9 (refine wpMixIn_q rfl (fun _ => rfl) (fun K hK => ?_); refine ⟨_, (fun Wq hWq => by obtain ⟨hb, hy⟩ := hWq; have g1 := rowD_of_heap hb; have g2 := (Array.getElem?_eq_some_iff.1 hb).1; go_simp; exact rfl), ?_⟩; go_simp; refine hK _ ?_; clear hK K)
  refine wpMixIn_s rfl (fun Wx hbx K hK => ?_)
  have hC := hC9.below _ _ hbx
  replace hJ0 := hJ _ _ _ hJ0 hbx
  refine ⟨fun _ _ => trivial, ?_⟩
  go_simp
  have hbz := (Below.refl Wx.heap.size Wx).alloc (Nat.le_refl _) (.cells #[Value.pointer (some ⟨q, 105, none⟩), Value.pointer (some ⟨q, 234, none⟩)] 162)
  replace hC := hC.below _ _ hbz
  replace hJ0 := hJ _ _ _ hJ0 hbz
  have hs := heap_alloc_new Wx (.cells #[Value.pointer (some ⟨q, 105, none⟩), Value.pointer (some ⟨q, 234, none⟩)] 162)
  refine hK _ _ hC ?_; clear hK K
  generalize Wx.alloc _ = Wz at hC hJ0 hs ⊢
  generalize Wx.heap.size = d at hs ⊢
  clear hbz hbx
  refine wpMixIn_s rfl (fun Wx hbx K hK => ?_)
  replace hC := hC.below _ _ hbx
  replace hJ0 := hJ _ _ _ hJ0 hbx
  replace hs := (hbx.block d (Array.getElem?_eq_some_iff.1 hs).1).trans hs
  refine ⟨fun _ _ => trivial, ?_⟩
  go_simp
  refine hK _ _ hC ?_; clear hK K
  refine wpMixIn_nil (fun Wz hbz => ?_)
  replace hC := hC.below _ _ hbz
  replace hJ0 := hJ _ _ _ hJ0 hbz
  replace hs := (hbz.block d (Array.getElem?_eq_some_iff.1 hs).1).trans hs
  clear hbx hbz hC9
  gi_wp2
  generalize hB : ([] ++ List.map Fld.h [0, 32, 64] ++ List.map Fld.n [96, 97, 98, 99, 100, 101, 102, 103, 104]) = B at hJ0
  gi_loopw [75] (fun i wr => ∃ k : Nat, k ≤ 2 ∧ i = .int .i64 k ∧ J (B ++ ((List.range k).map fun j => dataFld (105 + 129 * j)).flatten) wr ∧ PartsC q Bs Y l wr ∧ wr.heap[d]? = some (Obj.cells #[Value.pointer (some ⟨q, 105, none⟩), Value.pointer (some ⟨q, 234, none⟩)] 162 (0, 0)))
    (fun i _ => 2 - (intOf i).toNat)
  case atStart => exact ⟨0, by omega, rfl, by simpa using hJ0, hC, hs⟩
  case round =>
    obtain ⟨k, hk, rfl, hJ0, hC, hd⟩ := hrel
    by_cases hend : k = 2
    · subst hend
      simp only [Int.cast_ofNat_Int]
      gi_wp2
      go_end0
      exact ⟨⟨_, rfl⟩, .inl (by rw [← hB] at hJ0; exact hJ0)⟩
    have hlt : k < 2 := by omega
    have hPl : (B ++ ((List.range k).map fun j => dataFld (105 + 129 * j)).flatten).length = 12 + 5 * k := by
      rw [← hB]
      rcases (by omega : k = 0 ∨ k = 1) with rfl | rfl <;> rfl
    obtain ⟨off, hoff, hdk⟩ : ∃ off, (∀ _ : Unit, off = 105 + 129 * k) ∧ (wr.rowD d)[k]? = some (.pointer (some ⟨q, off, none⟩)) := by
      refine ⟨105 + 129 * k, fun _ => rfl, ?_⟩
      rw [rowD_of_heap hd]
      rcases (by omega : k = 0 ∨ k = 1) with rfl | rfl <;> rfl
    have hPs : ∀ _ : Unit, B ++ ((List.range (k + 1)).map fun j => dataFld (105 + 129 * j)).flatten = (B ++ ((List.range k).map fun j => dataFld (105 + 129 * j)).flatten) ++ List.map Fld.h [off, off + 32, off + 64, off + 96] ++ List.map Fld.n [off + 128] := fun _ => by
      rw [hoff (), List.range_succ]
      simp [dataFld]
    have hm1 : Fld.h off ∈ stFld ∧ Fld.h (off + 32) ∈ stFld ∧ Fld.h (off + 64) ∈ stFld ∧ Fld.h (off + 96) ∈ stFld := by
      rw [hoff ()]
      rcases (by omega : k = 0 ∨ k = 1) with rfl | rfl <;> simp [stFld, dataFld]
    have hm2 : Fld.n (off + 128) ∈ stFld := by
      rw [hoff ()]
      rcases (by omega : k = 0 ∨ k = 1) with rfl | rfl <;> simp [stFld, dataFld]
    generalize (B ++ ((List.range k).map fun j => dataFld (105 + 129 * j)).flatten) = Pk at hPl hPs hJ0
    clear hB hoff
    gi_wp2
    refine wpIn_region_seg rfl [[true, true, true, true, true, true, true, true, true, true, true, true, true, false, false], [true, true, true, true, true, true, false, false], [true, true]] (by kernel_rfl) (by kernel_rfl) ?_
    intro W2 hb2
    replace hJ0 := hJ _ _ _ hJ0 hb2
    replace hC := hC.below _ _ hb2
    replace hd := (hb2.block d (Array.getElem?_eq_some_iff.1 hd).1).trans hd
    refine wpSegIn_cons (PartsC q Bs Y l) PartsC.below hC (fun KS hKS => ?_)
    clear hb2 hdk
    iterate 13 (refine wpMixEIn_q rfl (fun _ => rfl) (fun K hK => ?_); refine ⟨_, (fun Wq hWq => by obtain ⟨hb, hy⟩ := hWq; have g1 := rowD_of_heap hb; have g2 := (Array.getElem?_eq_some_iff.1 hb).1; go_simp; exact rfl), ?_⟩; go_simp; refine hK _ ?_; clear hK K)
    refine wpMixEIn_s rfl (fun Wx hbx K hK => ?_)
    replace hC := hC.below _ _ hbx
    replace hd := (hbx.block d (Array.getElem?_eq_some_iff.1 hd).1).trans hd
    replace hJ0 := hJ _ _ _ hJ0 hbx
    refine ⟨fun _ _ => trivial, ?_⟩
    go_simp
    have hbz := (Below.refl Wx.heap.size Wx).alloc (Nat.le_refl _) (.cells #[Value.pointer (some ⟨q, off, none⟩), Value.pointer (some ⟨q, (off + 32), none⟩), Value.pointer (some ⟨q, (off + 64), none⟩), Value.pointer (some ⟨q, (off + 96), none⟩)] 175)
    replace hC := hC.below _ _ hbz
    replace hd := (hbz.block d (Array.getElem?_eq_some_iff.1 hd).1).trans hd
    replace hJ0 := hJ _ _ _ hJ0 hbz
    have hs := heap_alloc_new Wx (.cells #[Value.pointer (some ⟨q, off, none⟩), Value.pointer (some ⟨q, (off + 32), none⟩), Value.pointer (some ⟨q, (off + 64), none⟩), Value.pointer (some ⟨q, (off + 96), none⟩)] 175)
    refine hK _ _ (.inr hC) ?_; clear hK K
    generalize Wx.alloc _ = Wz at hC hJ0 hs hd ⊢
    generalize Wx.heap.size = s at hs ⊢
    clear hbz hbx
    refine wpMixEIn_s rfl (fun Wy hby K hK => ?_)
    replace hC := hC.below _ _ hby
    replace hd := (hby.block d (Array.getElem?_eq_some_iff.1 hd).1).trans hd
    replace hJ0 := hJ _ _ _ hJ0 hby
    replace hs := (hby.block s (Array.getElem?_eq_some_iff.1 hs).1).trans hs
    clear hby
    refine ⟨fun _ _ => trivial, ?_⟩
    go_simp
    refine ⟨(fun h => by cases h), (hashes_in (n - 1) l q 22 stFld J Jx (hY _) [off, off + 32, off + 64, off + 96] Pk (by simpa using hm1) (by simp; omega) (by simp) s 4 Y Wy hC.y hs hJ0).mono ?_⟩
    clear hs
    rintro e W6 (⟨rfl, hJ6, hk6⟩ | ⟨rfl, pre', hJx6⟩)
    rotate_left
    ·
      refine ⟨_, rfl, hK _ _ (.inl rfl) ?_⟩; clear hK K
      clear hJ0 hC
      refine wpMixEIn_nil (fun W7 hb7 => hKS _ _ ?_); clear hKS KS
      replace hJx6 := hJx _ _ _ hJx6 hb7
      clear hb7
      refine wpSegIn_cons (fun _ => True) (fun _ _ h _ => h) trivial (fun KS hKS => ?_)
      iterate 2 (refine wpMixEIn_q rfl (fun _ => rfl) (fun K hK => ?_); refine ⟨_, (fun Wq hWq => by go_simp; exact rfl), ?_⟩; go_simp; refine hK _ ?_; clear hK K)
      iterate 4 (refine wpMixEIn_qn (fun _ => rfl) rfl (fun K hK => ?_); go_simp; refine hK _ ?_; clear hK K)
      iterate 2 (refine wpMixEIn_sn rfl (fun _ => rfl) (fun Wn hbn K hK => ?_); replace hJx6 := hJx _ _ _ hJx6 hbn; go_simp; refine hK _ _ (.inr trivial) ?_; clear hK K hbn)
      refine wpMixEIn_nil (fun W7 hb7 => hKS _ _ ?_); clear hKS KS
      replace hJx6 := hJx _ _ _ hJx6 hb7
      clear hb7
      refine wpSegIn_cons (fun _ => True) (fun _ _ h _ => h) trivial (fun KS hKS => ?_)
      iterate 1 (refine wpMixEIn_qn (fun _ => rfl) rfl (fun K hK => ?_); go_simp; refine hK _ ?_; clear hK K)
      iterate 1 (refine wpMixEIn_q rfl (fun _ => rfl) (fun K hK => ?_); refine ⟨_, (fun Wq hWq => by go_simp; exact rfl), ?_⟩; go_simp; refine hK _ ?_; clear hK K)
      refine wpMixEIn_nil (fun W7 hb7 => hKS _ _ ?_); clear hKS KS
      replace hJx6 := hJx _ _ _ hJx6 hb7
      refine wpSegIn_nil (fun W8 hb8 => ?_)
      replace hJx6 := hJx _ _ _ hJx6 hb8
      gi_wp2
      exact bodyPost_ret (results_none rfl _ _ _) rfl ⟨⟨_, rfl⟩, .inr ⟨_, hJx6⟩⟩
    refine ⟨_, rfl, hK _ _ (.inl rfl) ?_⟩; clear hK K
    replace hC := hC.kp hk6
    replace hd := hk6.same _ _ _ _ (by simp [itType]) hd
    clear hJ0 hk6
    refine wpMixEIn_nil (fun W7 hb7 => hKS _ _ ?_); clear hKS KS
    replace hC := hC.below _ _ hb7
    replace hd := (hb7.block d (Array.getElem?_eq_some_iff.1 hd).1).trans hd
    have hJ0 := hJ _ _ _ hJ6 hb7
    clear hJ6 hb7
    refine wpSegIn_cons (PartsC q Bs Y l) PartsC.below hC (fun KS hKS => ?_)
    iterate 2 (refine wpMixEIn_q rfl (fun _ => rfl) (fun K hK => ?_); refine ⟨_, (fun Wq hWq => by obtain ⟨hb, hy⟩ := hWq; have g1 := rowD_of_heap hb; have g2 := (Array.getElem?_eq_some_iff.1 hb).1; go_simp; exact rfl), ?_⟩; go_simp; refine hK _ ?_; clear hK K)
    iterate 4 (refine wpMixEIn_qy (fun _ => rfl) rfl (fun K hK => ?_); refine ⟨_, (fun Wq hWq => by obtain ⟨hb, hy⟩ := hWq; have g1 := rowD_of_heap hb; have g2 := (Array.getElem?_eq_some_iff.1 hb).1; go_simp; exact rfl), ?_⟩; go_simp; refine hK _ ?_; clear hK K)
    refine wpMixEIn_sy rfl (fun Wx hbx K hK => ?_)
    replace hC := hC.below _ _ hbx
    replace hd := (hbx.block d (Array.getElem?_eq_some_iff.1 hd).1).trans hd
    replace hJ0 := hJ _ _ _ hJ0 hbx
    refine ⟨fun _ _ => trivial, ?_⟩
    go_simp
    have hbz := (Below.refl Wx.heap.size Wx).alloc (Nat.le_refl _) (.cells #[Value.pointer (some ⟨q, (off + 128), none⟩)] 176)
    replace hC := hC.below _ _ hbz
    replace hd := (hbz.block d (Array.getElem?_eq_some_iff.1 hd).1).trans hd
    replace hJ0 := hJ _ _ _ hJ0 hbz
    have hs := heap_alloc_new Wx (.cells #[Value.pointer (some ⟨q, (off + 128), none⟩)] 176)
    refine hK _ _ (.inr hC) ?_; clear hK K
    generalize Wx.alloc _ = Wz at hC hJ0 hs hd ⊢
    generalize Wx.heap.size = s at hs ⊢
    clear hbz hbx
    refine wpMixEIn_sy rfl (fun Wy hby K hK => ?_)
    replace hC := hC.below _ _ hby
    replace hd := (hby.block d (Array.getElem?_eq_some_iff.1 hd).1).trans hd
    replace hJ0 := hJ _ _ _ hJ0 hby
    replace hs := (hby.block s (Array.getElem?_eq_some_iff.1 hs).1).trans hs
    clear hby
    refine ⟨fun _ _ => trivial, ?_⟩
    go_simp
    refine ⟨(fun h => by cases h), (nums_in (n - 1) l q 22 stFld J Jx (hY _) [off + 128] _ (by simpa using hm2) (by simp; omega) (by simp) s 1 Y Wy hC.y hs hJ0).mono ?_⟩
    clear hs
    rintro e W6 (⟨rfl, hJ6, hk6⟩ | ⟨rfl, pre', hJx6⟩)
    rotate_left
    ·
      refine ⟨_, rfl, hK _ _ (.inl rfl) ?_⟩; clear hK K
      clear hJ0 hC
      refine wpMixEIn_nil (fun W7 hb7 => hKS _ _ ?_); clear hKS KS
      replace hJx6 := hJx _ _ _ hJx6 hb7
      clear hb7
      refine wpSegIn_cons (fun _ => True) (fun _ _ h _ => h) trivial (fun KS hKS => ?_)
      iterate 1 (refine wpMixEIn_qy (fun _ => rfl) rfl (fun K hK => ?_); refine ⟨_, (fun Wq hWq => by go_simp; exact rfl), ?_⟩; go_simp; refine hK _ ?_; clear hK K)
      iterate 1 (refine wpMixEIn_q rfl (fun _ => rfl) (fun K hK => ?_); refine ⟨_, (fun Wq hWq => by go_simp; exact rfl), ?_⟩; go_simp; refine hK _ ?_; clear hK K)
      refine wpMixEIn_nil (fun W7 hb7 => hKS _ _ ?_); clear hKS KS
      replace hJx6 := hJx _ _ _ hJx6 hb7
      refine wpSegIn_nil (fun W8 hb8 => ?_)
      replace hJx6 := hJx _ _ _ hJx6 hb8
      gi_wp2
      exact bodyPost_ret (results_none rfl _ _ _) rfl ⟨⟨_, rfl⟩, .inr ⟨_, hJx6⟩⟩
    refine ⟨_, rfl, hK _ _ (.inl rfl) ?_⟩; clear hK K
    replace hC := hC.kp hk6
    replace hd := hk6.same _ _ _ _ (by simp [itType]) hd
    clear hJ0 hk6
    refine wpMixEIn_nil (fun W7 hb7 => hKS _ _ ?_); clear hKS KS
    replace hC := hC.below _ _ hb7
    replace hd := (hb7.block d (Array.getElem?_eq_some_iff.1 hd).1).trans hd
    have hJ0 := hJ _ _ _ hJ6 hb7
    clear hJ6 hb7
    refine wpSegIn_cons (PartsC q Bs Y l) PartsC.below hC (fun KS hKS => ?_)
    iterate 1 (refine wpMixEIn_qy (fun _ => rfl) rfl (fun K hK => ?_); refine ⟨_, (fun Wq hWq => by obtain ⟨hb, hy⟩ := hWq; have g1 := rowD_of_heap hb; have g2 := (Array.getElem?_eq_some_iff.1 hb).1; go_simp; exact rfl), ?_⟩; go_simp; refine hK _ ?_; clear hK K)
    iterate 1 (refine wpMixEIn_q rfl (fun _ => rfl) (fun K hK => ?_); refine ⟨_, (fun Wq hWq => by obtain ⟨hb, hy⟩ := hWq; have g1 := rowD_of_heap hb; have g2 := (Array.getElem?_eq_some_iff.1 hb).1; go_simp; exact rfl), ?_⟩; go_simp; refine hK _ ?_; clear hK K)
    refine wpMixEIn_nil (fun W7 hb7 => hKS _ _ ?_); clear hKS KS
    replace hC := hC.below _ _ hb7
    replace hd := (hb7.block d (Array.getElem?_eq_some_iff.1 hd).1).trans hd
    replace hJ0 := hJ _ _ _ hJ0 hb7
    refine wpSegIn_nil (fun W8 hb8 => ?_)
    replace hC := hC.below _ _ hb8
    replace hd := (hb8.block d (Array.getElem?_eq_some_iff.1 hd).1).trans hd
    replace hJ0 := hJ _ _ _ hJ0 hb8
    clear hb7 hb8
    gi_wp2
    exact ⟨⟨k + 1, by omega, by simp, by rw [hPs ()]; exact hJ0, hC, hd⟩, by simp [intOf]; omega⟩
end Go.Proofs.YtpoaakdljpdkfaaDoor

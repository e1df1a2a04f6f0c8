/- THE WALK OF link.Line. -/
import Derived.Test.YtpoaakdljpdkfaaDoorC31
import Derived.Test.YtpoaakdljpdkfaaDoorC28
import Derived.ScopeJumps
import Derived.WalkMore
set_option linter.unusedSimpArgs false
set_option linter.unusedVariables false
namespace Go.Alm
/-- how many states follow one another, and why the next one doesn't -/
def lineFrom : St → List St → Nat → Nat × Nat
  | _, [], n => (n, 0)
  | p, c :: r, n => if follows p c = 0 then lineFrom c r (n + 1) else (n, follows p c)
def line : List St → Nat × Nat
  | [] => (0, 0)
  | p :: r => lineFrom p r 1
end Go.Alm
namespace Go.Proofs.YtpoaakdljpdkfaaDoor
open Go.RowKit Go.Alm
theorem wp_frame_eq {P : Program} {c : Code} {Q : Exit → Act → World → Prop} {a a' : Act} {w : World} (h : a = a') (h2 : c.wp P Q a' w) : c.wp P Q a w := h ▸ h2
set_option maxRecDepth 20000 in
set_option maxHeartbeats 2000000 in
theorem Line_any (l : List St) (ao : Option Addr) (cap : Nat) (w : World) (hk : Keyed w) (hwf : ∀ s ∈ l, s.Wf) (hlen : l.length < 1000000) (hs : AtS w ao l.length 363 (encSts l)) :
    Calls Tryd.prog 72 #[.slice ao l.length cap] w fun e w' => e = .returned (.tuple #[.int .i64 ((line l).1 : Nat), .int .i64 ((line l).2 : Nat)]) ∧ Below w.heap.size w w' := by
  go_enter Tryd.func72, Tryd.ntmps72
  go_wp2
  refine wp_scope_jumps 0 (fun a' w1 => Below w.heap.size w w1 ∧ ∃ (m n : Nat) (p : St) (u6 u7 u8 u9 u10 u11 u12 u13 u14 u15 u16 u17 u18 u19 u20 u21 u22 u23 u24 u25 u26 u27 u28 : Value), a' = { tmps := #[.slice ao l.length cap, undef, .int .i64 0, .int .i64 0, .int .i64 0, .int .i64 (n : Int), u6, u7, u8, u9, u10, u11, u12, u13, u14, u15, u16, u17, u18, u19, u20, u21, u22, u23, u24, u25, u26, u27, u28], defers := [] } ∧ n = m + 1 ∧ l[m]? = some p ∧ n ≤ l.length ∧ line l = lineFrom p (l.drop n) n)
    (fun a' _ => l.length - (intOf (a'.tmps.getD 5 undef)).toNat) rfl ?_ ?_
  · by_cases h0 : l.length = 0
    · go_wp2
      go_step3
      go_wp2_with fail
      simp only [Exit.jump]
      go_ret2
      exact ⟨by rw [List.length_eq_zero_iff.1 h0]; rfl, Below.refl _ _⟩
    · go_wp2
      obtain ⟨n, hn1⟩ : ∃ n : Nat, n = 1 := ⟨1, rfl⟩
      obtain ⟨m, hm0⟩ : ∃ m : Nat, m = 0 := ⟨0, rfl⟩
      refine wp_frame_eq (a' := { tmps := #[.slice ao l.length cap, undef, .int .i64 0, .int .i64 0, .int .i64 0, .int .i64 (n : Int), .slice ao l.length cap, .int .i64 (l.length : Int), .int .i64 1, undef, undef, undef, undef, undef, undef, undef, undef, undef, undef, undef, undef, undef, undef, undef, undef, undef, undef, undef, undef], defers := [] }) (by rw [hn1]; rfl) ?_
      go_step3
      obtain ⟨p, hmp⟩ : ∃ p, l[m]? = some p := ⟨l[m]'(by omega), List.getElem?_eq_getElem (by omega)⟩
      have hL : ∀ _ : Unit, line l = lineFrom p (l.drop n) n := fun _ => by
        subst hn1 hm0
        match l, hmp with
        | x :: r, h => simp at h; subst h; rfl
      have hnl : n ≤ l.length := by omega
      have hnm : ∀ _ : Unit, n = m + 1 := fun _ => by omega
      have hsub : ∀ _ : Unit, IntKind.i64.wrap ((n : Int) - 1) = (m : Int) := fun _ => by have := hnm (); rw [IntKind.wrap_i64]; omega
      clear hn1 hm0 h0
      obtain ⟨w1, hw1⟩ : ∃ w1, w1 = w := ⟨w, rfl⟩
      have hbw : Below w.heap.size w w1 := hw1 ▸ Below.refl _ _
      rw [← hw1]
      have hs' := hs
      rw [← hw1] at hs'
      clear hw1
      by_cases hn : n < l.length
      · have hml : m < l.length := by have := hnm (); omega
        obtain ⟨q, o, rfl, hq, hrow⟩ := (hs.resolve_left (by omega))
        obtain ⟨hle1, hget1⟩ := AtS.get (by omega) encSt (fun b => size_encSt b) l rfl hrow m hml
        obtain ⟨hle2, hget2⟩ := AtS.get (by omega) encSt (fun b => size_encSt b) l rfl hrow n hn
        have hp' : l[m]'hml = p := by
          have := hmp
          rw [List.getElem?_eq_getElem hml] at this
          exact Option.some.inj this
        rw [hp'] at hget1
        have hpw := hwf p (by rw [← hp']; exact List.getElem_mem _)
        obtain ⟨c, hc'⟩ : ∃ c, l[n]'hn = c := ⟨_, rfl⟩
        have hcl : l[n]? = some c := by rw [List.getElem?_eq_getElem hn, hc']
        have hcw := (hwf c (by rw [← hc']; exact List.getElem_mem _)).slot
        rw [hc'] at hget2
        have hst : ∀ _ : Unit, follows p c ≠ 0 → line l = (n, follows p c) := fun _ h => by rw [hL (), List.drop_eq_getElem_cons hn, hc', lineFrom, if_neg h]
        have hon : ∀ _ : Unit, follows p c = 0 → line l = lineFrom c (l.drop (n + 1)) (n + 1) := fun _ h => by rw [hL (), List.drop_eq_getElem_cons hn, hc', lineFrom, if_pos h]
        have hqr : q < w1.heap.size := Nat.lt_of_lt_of_le hq hbw.size
        rw [← rowD_congr (hbw.block q hq)] at hle1 hget1 hle2 hget2
        clear hp' hc' hs hrow hL
        go_wp2_with fail
        refine wp_region_mix [true, true, true, true, true, true, true, true, true, true, true] (fun W => q < W.heap.size ∧ o + m * 363 + 363 ≤ (W.rowD q).size ∧ (W.rowD q).extract (o + m * 363) (o + m * 363 + 363) = encSt p ∧ o + n * 363 + 363 ≤ (W.rowD q).size ∧ (W.rowD q).extract (o + n * 363) (o + n * 363 + 363) = encSt c ∧ Keyed W)
          (fun W W' h hb => by obtain ⟨g0, l1, e1, l2, e2, hkq⟩ := h; have hr := rowD_congr (hb.block q g0); exact ⟨Nat.lt_of_lt_of_le g0 hb.size, by rw [hr]; exact l1, by rw [hr]; exact e1, by rw [hr]; exact l2, by rw [hr]; exact e2, hkq.below hb⟩) ⟨hqr, hle1, hget1, hle2, hget2, hk.below hbw⟩ (by kernel_rfl) (by kernel_rfl) ?_
        intro W1 hb1 hC1
        clear hle1 hget1 hle2 hget2 hqr hq
        have hbw1 := ((⟨hbw, fun p h => by cases h⟩ : Owns w w1 []).call hb1).below
        iterate 2 (refine wpMix_q rfl (fun K hK => ?_); refine ⟨_, (fun Wq hWq => by obtain ⟨g0, l1, e1, l2, e2, hkq⟩ := hWq; go_simp; exact rfl), ?_⟩; go_simp; refine hK _ ?_; clear hK K)
        have hm := hsub ()
        iterate 1 (refine wpMix_q rfl (fun K hK => ?_); refine ⟨_, (fun Wq hWq => by obtain ⟨g0, l1, e1, l2, e2, hkq⟩ := hWq; go_simp; exact rfl), ?_⟩; go_simp; refine hK _ ?_; clear hK K)
        clear hm
        iterate 6 (refine wpMix_q rfl (fun K hK => ?_); refine ⟨_, (fun Wq hWq => by obtain ⟨g0, l1, e1, l2, e2, hkq⟩ := hWq; go_simp; exact rfl), ?_⟩; go_simp; refine hK _ ?_; clear hK K)
        refine wpMix_q rfl (fun K hK => ?_); refine ⟨_, (fun Wq hWq => by obtain ⟨g0, l1, e1, l2, e2, hkq⟩ := hWq; go_simp; exact Calls.grow_of (LFollows_any p c Wq hkq hpw hcw) rfl), ?_⟩; go_simp; refine hK _ ?_; clear hK K
        iterate 1 (refine wpMix_q rfl (fun K hK => ?_); refine ⟨_, (fun Wq hWq => by obtain ⟨g0, l1, e1, l2, e2, hkq⟩ := hWq; go_simp; exact rfl), ?_⟩; go_simp; refine hK _ ?_; clear hK K)
        refine wpMix_nil (fun W2 hb2 => ?_)
        have hbw2 := ((⟨hbw1, fun p h => by cases h⟩ : Owns w W1 []).call hb2).below
        clear hbw hb1 hb2 hbw1 hC1
        by_cases hF : follows p c = 0
        · have hon' : ∀ _ : Unit, line l = lineFrom c (l.drop (n + 1)) (n + 1) := fun _ => hon () hF
          have f1 : (((follows p c : Nat) : Int) == 0) = true := by rw [hF]; rfl
          have hadd : IntKind.i64.wrap ((n : Int) + 1) = ((n + 1 : Nat) : Int) := by rw [IntKind.wrap_i64]; omega
          clear hst hon
          go_wp2_with fail
          go_step3
          rw [hF]
          refine ⟨rfl, hbw2, n, n + 1, c, _, _, _, _, _, _, _, _, _, _, _, _, _, _, _, _, _, _, _, _, _, _, _, rfl, rfl, hcl, hn, hon' ()⟩
        · have hst' : ∀ _ : Unit, line l = (n, follows p c) := fun _ => hst () hF
          have f1 : (((follows p c : Nat) : Int) == 0) = false := by simpa using hF
          clear hst hon
          go_wp2_with fail
          simp only [Exit.jump]
          go_ret2
          exact ⟨by rw [hst' ()]; rfl, hbw2⟩
      · have hfin : ∀ _ : Unit, line l = (n, 0) := fun _ => by rw [hL (), List.drop_eq_nil_of_le (by omega)]; rfl
        clear hL
        go_wp2_with fail
        simp only [Exit.jump]
        go_ret2
        exact ⟨by rw [hfin ()]; rfl, hbw⟩
  · rintro a' w1 ⟨hbw, m, n, p, u6, u7, u8, u9, u10, u11, u12, u13, u14, u15, u16, u17, u18, u19, u20, u21, u22, u23, u24, u25, u26, u27, u28, rfl, hnm, hmp, hnl, hL⟩
    replace hnm : ∀ _ : Unit, n = m + 1 := fun _ => hnm
    replace hL : ∀ _ : Unit, line l = lineFrom p (l.drop n) n := fun _ => hL
    have hsub : ∀ _ : Unit, IntKind.i64.wrap ((n : Int) - 1) = (m : Int) := fun _ => by have := hnm (); rw [IntKind.wrap_i64]; omega
    by_cases hn : n < l.length
    · have hml : m < l.length := by have := hnm (); omega
      obtain ⟨q, o, rfl, hq, hrow⟩ := (hs.resolve_left (by omega))
      obtain ⟨hle1, hget1⟩ := AtS.get (by omega) encSt (fun b => size_encSt b) l rfl hrow m hml
      obtain ⟨hle2, hget2⟩ := AtS.get (by omega) encSt (fun b => size_encSt b) l rfl hrow n hn
      have hp' : l[m]'hml = p := by
        have := hmp
        rw [List.getElem?_eq_getElem hml] at this
        exact Option.some.inj this
      rw [hp'] at hget1
      have hpw := hwf p (by rw [← hp']; exact List.getElem_mem _)
      obtain ⟨c, hc'⟩ : ∃ c, l[n]'hn = c := ⟨_, rfl⟩
      have hcl : l[n]? = some c := by rw [List.getElem?_eq_getElem hn, hc']
      have hcw := (hwf c (by rw [← hc']; exact List.getElem_mem _)).slot
      rw [hc'] at hget2
      have hst : ∀ _ : Unit, follows p c ≠ 0 → line l = (n, follows p c) := fun _ h => by rw [hL (), List.drop_eq_getElem_cons hn, hc', lineFrom, if_neg h]
      have hon : ∀ _ : Unit, follows p c = 0 → line l = lineFrom c (l.drop (n + 1)) (n + 1) := fun _ h => by rw [hL (), List.drop_eq_getElem_cons hn, hc', lineFrom, if_pos h]
      have hqr : q < w1.heap.size := Nat.lt_of_lt_of_le hq hbw.size
      rw [← rowD_congr (hbw.block q hq)] at hle1 hget1 hle2 hget2
      clear hp' hc' hs hrow hL
      go_wp2_with fail
      refine wp_region_mix [true, true, true, true, true, true, true, true, true, true, true] (fun W => q < W.heap.size ∧ o + m * 363 + 363 ≤ (W.rowD q).size ∧ (W.rowD q).extract (o + m * 363) (o + m * 363 + 363) = encSt p ∧ o + n * 363 + 363 ≤ (W.rowD q).size ∧ (W.rowD q).extract (o + n * 363) (o + n * 363 + 363) = encSt c ∧ Keyed W)
        (fun W W' h hb => by obtain ⟨g0, l1, e1, l2, e2, hkq⟩ := h; have hr := rowD_congr (hb.block q g0); exact ⟨Nat.lt_of_lt_of_le g0 hb.size, by rw [hr]; exact l1, by rw [hr]; exact e1, by rw [hr]; exact l2, by rw [hr]; exact e2, hkq.below hb⟩) ⟨hqr, hle1, hget1, hle2, hget2, hk.below hbw⟩ (by kernel_rfl) (by kernel_rfl) ?_
      intro W1 hb1 hC1
      clear hle1 hget1 hle2 hget2 hqr hq
      have hbw1 := ((⟨hbw, fun p h => by cases h⟩ : Owns w w1 []).call hb1).below
      iterate 2 (refine wpMix_q rfl (fun K hK => ?_); refine ⟨_, (fun Wq hWq => by obtain ⟨g0, l1, e1, l2, e2, hkq⟩ := hWq; go_simp; exact rfl), ?_⟩; go_simp; refine hK _ ?_; clear hK K)
      have hm := hsub ()
      iterate 1 (refine wpMix_q rfl (fun K hK => ?_); refine ⟨_, (fun Wq hWq => by obtain ⟨g0, l1, e1, l2, e2, hkq⟩ := hWq; go_simp; exact rfl), ?_⟩; go_simp; refine hK _ ?_; clear hK K)
      clear hm
      iterate 6 (refine wpMix_q rfl (fun K hK => ?_); refine ⟨_, (fun Wq hWq => by obtain ⟨g0, l1, e1, l2, e2, hkq⟩ := hWq; go_simp; exact rfl), ?_⟩; go_simp; refine hK _ ?_; clear hK K)
      refine wpMix_q rfl (fun K hK => ?_); refine ⟨_, (fun Wq hWq => by obtain ⟨g0, l1, e1, l2, e2, hkq⟩ := hWq; go_simp; exact Calls.grow_of (LFollows_any p c Wq hkq hpw hcw) rfl), ?_⟩; go_simp; refine hK _ ?_; clear hK K
      iterate 1 (refine wpMix_q rfl (fun K hK => ?_); refine ⟨_, (fun Wq hWq => by obtain ⟨g0, l1, e1, l2, e2, hkq⟩ := hWq; go_simp; exact rfl), ?_⟩; go_simp; refine hK _ ?_; clear hK K)
      refine wpMix_nil (fun W2 hb2 => ?_)
      have hbw2 := ((⟨hbw1, fun p h => by cases h⟩ : Owns w W1 []).call hb2).below
      clear hbw hb1 hb2 hbw1 hC1
      by_cases hF : follows p c = 0
      · have hon' : ∀ _ : Unit, line l = lineFrom c (l.drop (n + 1)) (n + 1) := fun _ => hon () hF
        have f1 : (((follows p c : Nat) : Int) == 0) = true := by rw [hF]; rfl
        have hadd : IntKind.i64.wrap ((n : Int) + 1) = ((n + 1 : Nat) : Int) := by rw [IntKind.wrap_i64]; omega
        clear hst hon
        go_wp2_with fail
        go_step3
        rw [hF]
        refine ⟨rfl, ⟨hbw2, n, n + 1, c, _, _, _, _, _, _, _, _, _, _, _, _, _, _, _, _, _, _, _, _, _, _, _, rfl, rfl, hcl, hn, hon' ()⟩, by simp [intOf]; omega⟩
      · have hst' : ∀ _ : Unit, line l = (n, follows p c) := fun _ => hst () hF
        have f1 : (((follows p c : Nat) : Int) == 0) = false := by simpa using hF
        clear hst hon
        go_wp2_with fail
        simp only [Exit.jump]
        go_ret2
        exact ⟨by rw [hst' ()]; rfl, hbw2⟩
    · have hfin : ∀ _ : Unit, line l = (n, 0) := fun _ => by rw [hL (), List.drop_eq_nil_of_le (by omega)]; rfl
      clear hL
      go_wp2_with fail
      simp only [Exit.jump]
      go_ret2
      exact ⟨by rw [hfin ()]; rfl, hbw⟩
end Go.Proofs.YtpoaakdljpdkfaaDoor

/- ARGUMENTS OPENED: what a struct of whole numbers holds when the call begins. -/
import Derived.Test.YtpoaakdljpdkfaaDoorEnc
import Derived.Test.YtpoaakdljpdkfaaDoorSpec
set_option linter.unusedSimpArgs false
set_option linter.unusedVariables false
namespace Go.Alm
open Go.RowKit

def IntCells : List IntKind → List Value → Prop
  | [], [] => True
  | k :: ks, v :: vs => (∃ n : Int, v = .int k n ∧ k.has n) ∧ IntCells ks vs
  | _, _ => False

def intsB (P : Program) : List TypeId → List IntKind → Bool
  | [], [] => true
  | u :: us, k :: ks => (match P.underlying u with | some (.int k') => decide (k' = k) | _ => false) && intsB P us ks
  | _, _ => false

theorem intsB_get {P : Program} : ∀ (us : List TypeId) (ks : List IntKind), intsB P us ks = true → us.length = ks.length ∧ ∀ (i : Nat) (u : TypeId), us[i]? = some u → ∃ k, ks[i]? = some k ∧ P.underlying u = some (.int k)
  | [], [], _ => ⟨rfl, fun i u h => by simp at h⟩
  | u :: us, k :: ks, h => by
    unfold intsB at h
    rw [Bool.and_eq_true] at h
    obtain ⟨h1, h2⟩ := h
    obtain ⟨e, f⟩ := intsB_get us ks h2
    refine ⟨by simp [e], fun i u' hu => ?_⟩
    cases i with
    | zero =>
      simp only [List.getElem?_cons_zero, Option.some.injEq] at hu
      subst hu
      split at h1
      · rename_i k' hk
        have : k' = k := of_decide_eq_true h1
        subst this
        exact ⟨k', rfl, hk⟩
      · cases h1
    | succ j => simpa using f j u' (by simpa using hu)
  | [], _ :: _, h => by cases h
  | _ :: _, [], h => by cases h

theorem IntCells.of_get : ∀ (ks : List IntKind) (vs : List Value), vs.length = ks.length → (∀ (i : Nat) (v : Value), vs[i]? = some v → ∃ k : IntKind, ks[i]? = some k ∧ ∃ n : Int, v = Value.int k n ∧ k.has n) → IntCells ks vs
  | [], [], _, _ => trivial
  | k :: ks, v :: vs, hl, h => by
    refine ⟨?_, IntCells.of_get ks vs (by simpa using hl) fun i v' hv => by simpa using h (i + 1) v' (by simpa using hv)⟩
    obtain ⟨k', hk, n, hv⟩ := h 0 v rfl
    simp at hk
    subst hk
    exact ⟨n, hv⟩
  | [], _ :: _, hl, _ => by simp at hl
  | _ :: _, [], hl, _ => by simp at hl

theorem open_ints {P : Program} {W : World} {r : Reach} {base : Nat} {t : TypeId} {v : Value} (ks : List IntKind) (hs : (match P.underlying t with | some (.struct _) | some (.array _ _) => true | _ => false) = true)
    (hk : (match P.cellTypes P.depth t with | some ts => intsB P ts ks | none => false) = true) (hc : P.cellsOf t = ks.length) (h : Value.okWide P W r base t v) : ∃ cs, v = .agg cs ∧ IntCells ks cs.toList := by
  have h' : ∃ cs, v = .agg cs ∧ cs.size = P.cellsOf t ∧ Row.okWide P W r base t cs := by
    unfold Value.okWide at h
    split at h
    · exact h
    · exact h
    · rename_i h1 h2
      split at hs
      · rename_i e; exact absurd e (h1 _)
      · rename_i e; exact absurd e (h2 _ _)
      · cases hs
  obtain ⟨cs, rfl, hsz, ts, hts, _, hcell⟩ := h'
  rw [hts] at hk
  obtain ⟨e, f⟩ := intsB_get ts ks hk
  refine ⟨cs, rfl, IntCells.of_get ks cs.toList (by rw [Array.length_toList, hsz, hc]) fun i x hx => ?_⟩
  have hi : i < cs.size := by
    have := (List.getElem?_eq_some_iff.1 hx).1
    simpa using this
  obtain ⟨u, hu, ho⟩ := hcell i x (by simpa using hx)
  rw [Nat.mod_eq_of_lt (by omega)] at hu
  obtain ⟨k, hk, hun⟩ := f i u hu
  refine ⟨k, hk, ?_⟩
  unfold Cell.okWide at ho
  rw [hun] at ho
  simp only [] at ho
  unfold Cell.ok at ho
  rw [hun] at ho
  cases x <;> simp only [] at ho
  obtain ⟨rfl, ho⟩ := ho
  exact ⟨_, rfl, ho⟩

theorem IntCells.split : ∀ (a : List IntKind) {b : List IntKind} {l : List Value}, IntCells (a ++ b) l → ∃ x y, l = x ++ y ∧ IntCells a x ∧ IntCells b y
  | [], b, l, h => ⟨[], l, rfl, trivial, h⟩
  | k :: a, b, v :: l, h => by
    obtain ⟨x, y, rfl, hx, hy⟩ := IntCells.split a h.2
    exact ⟨v :: x, y, rfl, ⟨h.1, hx⟩, hy⟩
  | k :: a, b, [], h => by cases h

def k8 : Nat → List IntKind := fun n => List.replicate n .u8
def k32 : Nat → List IntKind := fun n => List.replicate n .u32
theorem dec_u8 : ∀ (n : Nat) {l : List Value}, IntCells (k8 n) l → ∃ ns : List Nat, ns.length = n ∧ (∀ x ∈ ns, x < 256) ∧ l = ns.map u8
  | 0, [], _ => ⟨[], rfl, by simp, rfl⟩
  | n + 1, v :: l, h => by
    obtain ⟨⟨m, rfl, hm⟩, hl⟩ : (∃ m : Int, v = .int .u8 m ∧ IntKind.u8.has m) ∧ IntCells (k8 n) l := h
    obtain ⟨ns, h1, h2, rfl⟩ := dec_u8 n hl
    have hb : 0 ≤ m ∧ m ≤ 255 := hm
    refine ⟨m.toNat :: ns, by simp [h1], ?_, ?_⟩
    · intro x hx
      rcases List.mem_cons.1 hx with rfl | hx
      · omega
      · exact h2 x hx
    · simp only [List.map_cons, u8, show ((m.toNat : Nat) : Int) = m by omega]
  | 0, _ :: _, h => by cases h
  | n + 1, [], h => by cases h
theorem dec_u32 : ∀ (n : Nat) {l : List Value}, IntCells (k32 n) l → ∃ ns : List Nat, ns.length = n ∧ (∀ x ∈ ns, x < 4294967296) ∧ l = ns.map u32
  | 0, [], _ => ⟨[], rfl, by simp, rfl⟩
  | n + 1, v :: l, h => by
    obtain ⟨⟨m, rfl, hm⟩, hl⟩ : (∃ m : Int, v = .int .u32 m ∧ IntKind.u32.has m) ∧ IntCells (k32 n) l := h
    obtain ⟨ns, h1, h2, rfl⟩ := dec_u32 n hl
    have hb : 0 ≤ m ∧ m ≤ 4294967295 := hm
    refine ⟨m.toNat :: ns, by simp [h1], ?_, ?_⟩
    · intro x hx
      rcases List.mem_cons.1 hx with rfl | hx
      · omega
      · exact h2 x hx
    · simp only [List.map_cons, u32, show ((m.toNat : Nat) : Int) = m by omega]
  | 0, _ :: _, h => by cases h
  | n + 1, [], h => by cases h

theorem dec_N {l : List Value} (h : IntCells (k32 1) l) : ∃ n : Nat, n < 4294967296 ∧ l = [Value.int .u32 (n : Int)] := by
  obtain ⟨ns, h1, h2, rfl⟩ := dec_u32 1 h
  match ns, h1, h2 with
  | [n], _, h2 => exact ⟨n, h2 n (by simp), rfl⟩
theorem dec_H {l : List Value} (h : IntCells (k8 32) l) : ∃ x : H32, l = encHL x := by
  obtain ⟨ns, h1, h2, rfl⟩ := dec_u8 32 h
  exact ⟨⟨ns, h1, h2⟩, rfl⟩
theorem dec_C {l : List Value} (h : IntCells (k32 4) l) : ∃ x : C4, (∀ n ∈ x.l, n < 4294967296) ∧ l = encCL x := by
  obtain ⟨ns, h1, h2, rfl⟩ := dec_u32 4 h
  exact ⟨⟨ns, h1⟩, h2, rfl⟩
def rgK : List IntKind := k32 1 ++ k32 4
def wnK : List IntKind := k32 1 ++ rgK
def dtK : List IntKind := k8 32 ++ (k8 32 ++ (k8 32 ++ (k8 32 ++ k32 1)))
def prK : List IntKind := dtK ++ dtK
def stK : List IntKind := k8 32 ++ (k8 32 ++ (k8 32 ++ (k32 1 ++ (k32 1 ++ (k32 1 ++ (wnK ++ prK))))))
def bkK : List IntKind := k32 1 ++ (k8 32 ++ k8 32)
theorem dec_Rg {l : List Value} (h : IntCells rgK l) : ∃ x : Rg, x.Wf ∧ l = encRgL x := by
  obtain ⟨a, b, rfl, h1, h2⟩ := IntCells.split _ h
  obtain ⟨n, hn, rfl⟩ := dec_N h1
  obtain ⟨c, hc, rfl⟩ := dec_C h2
  exact ⟨⟨n, c⟩, ⟨hn, hc⟩, rfl⟩
theorem dec_Wn {l : List Value} (h : IntCells wnK l) : ∃ x : Wn, x.Wf ∧ l = encWnL x := by
  obtain ⟨a, b, rfl, h1, h2⟩ := IntCells.split _ h
  obtain ⟨n, hn, rfl⟩ := dec_N h1
  obtain ⟨c, hc, rfl⟩ := dec_Rg h2
  exact ⟨⟨n, c⟩, ⟨hn, hc⟩, rfl⟩
theorem dec_Dt {l : List Value} (h : IntCells dtK l) : ∃ x : Dt, x.length < 4294967296 ∧ l = encDtL x := by
  obtain ⟨a, _, rfl, h1, h⟩ := IntCells.split _ h
  obtain ⟨b, _, rfl, h2, h⟩ := IntCells.split _ h
  obtain ⟨c, _, rfl, h3, h⟩ := IntCells.split _ h
  obtain ⟨d, e, rfl, h4, h5⟩ := IntCells.split _ h
  obtain ⟨a, rfl⟩ := dec_H h1
  obtain ⟨b, rfl⟩ := dec_H h2
  obtain ⟨c, rfl⟩ := dec_H h3
  obtain ⟨d, rfl⟩ := dec_H h4
  obtain ⟨n, hn, rfl⟩ := dec_N h5
  exact ⟨⟨a, b, c, d, n⟩, hn, rfl⟩
theorem dec_Pr {l : List Value} (h : IntCells prK l) : ∃ x : Pr, x.now.length < 4294967296 ∧ x.next.length < 4294967296 ∧ l = encPrL x := by
  obtain ⟨a, b, rfl, h1, h2⟩ := IntCells.split _ h
  obtain ⟨x, hx, rfl⟩ := dec_Dt h1
  obtain ⟨y, hy, rfl⟩ := dec_Dt h2
  exact ⟨⟨x, y⟩, hx, hy, rfl⟩
theorem dec_St {l : List Value} (h : IntCells stK l) : ∃ x : St, x.Wf ∧ l = encStL x := by
  obtain ⟨a, _, rfl, h1, h⟩ := IntCells.split _ h
  obtain ⟨b, _, rfl, h2, h⟩ := IntCells.split _ h
  obtain ⟨c, _, rfl, h3, h⟩ := IntCells.split _ h
  obtain ⟨d, _, rfl, h4, h⟩ := IntCells.split _ h
  obtain ⟨e, _, rfl, h5, h⟩ := IntCells.split _ h
  obtain ⟨f, _, rfl, h6, h⟩ := IntCells.split _ h
  obtain ⟨g, i, rfl, h7, h8⟩ := IntCells.split _ h
  obtain ⟨a, rfl⟩ := dec_H h1
  obtain ⟨b, rfl⟩ := dec_H h2
  obtain ⟨c, rfl⟩ := dec_H h3
  obtain ⟨d, hd, rfl⟩ := dec_N h4
  obtain ⟨e, he, rfl⟩ := dec_N h5
  obtain ⟨f, hf, rfl⟩ := dec_N h6
  obtain ⟨g, hg, rfl⟩ := dec_Wn h7
  obtain ⟨i, hi1, hi2, rfl⟩ := dec_Pr h8
  exact ⟨⟨a, b, c, d, e, f, g, i⟩, ⟨hd, he, hf, hg, hi1, hi2⟩, rfl⟩
theorem dec_Bk {l : List Value} (h : IntCells bkK l) : ∃ x : Bk, x.slot < 4294967296 ∧ l = encBkL x := by
  obtain ⟨a, _, rfl, h1, h⟩ := IntCells.split _ h
  obtain ⟨b, c, rfl, h2, h3⟩ := IntCells.split _ h
  obtain ⟨n, hn, rfl⟩ := dec_N h1
  obtain ⟨b, rfl⟩ := dec_H h2
  obtain ⟨c, rfl⟩ := dec_H h3
  exact ⟨⟨n, b, c⟩, hn, rfl⟩
theorem agg_of {cs : Array Value} {l : List Value} (h : cs.toList = l) : cs = l.toArray := Array.toList_inj.1 h
end Go.Alm

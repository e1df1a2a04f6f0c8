/- HOW THE PROGRAM's STRUCTS LIE IN CELLS. -/
import Derived.Test.YtpoaakdljpdkfaaDoorSpec
import Derived.Test.YtpoaakdljpdkfaaDoorMem
set_option linter.unusedSimpArgs false
set_option linter.unusedVariables false
namespace Go.Alm
open Go.RowKit

abbrev u8 (n : Nat) : Value := .int .u8 (n : Int)
abbrev u32 (n : Nat) : Value := .int .u32 (n : Int)
def encHL (h : H32) : List Value := h.l.map u8
def encCL (c : C4) : List Value := c.l.map u32
def encH (h : H32) : Array Value := (encHL h).toArray
def encC (h : C4) : Array Value := (encCL h).toArray
theorem len_encHL (h : H32) : (encHL h).length = 32 := by simp [encHL, h.len]
theorem len_encCL (c : C4) : (encCL c).length = 4 := by simp [encCL, c.len]
@[simp, go_sem] theorem size_encH (h : H32) : (encH h).size = 32 := len_encHL h
@[simp, go_sem] theorem size_encC (h : C4) : (encC h).size = 4 := len_encCL h
theorem one_encHL (h : H32) : ∀ v ∈ encHL h, v.oneCell' = true := by intro v hv; simp only [encHL, List.mem_map] at hv; obtain ⟨n, _, rfl⟩ := hv; rfl
theorem one_encCL (h : C4) : ∀ v ∈ encCL h, v.oneCell' = true := by intro v hv; simp only [encCL, List.mem_map] at hv; obtain ⟨n, _, rfl⟩ := hv; rfl
theorem one_encH (h : H32) : ∀ v ∈ (encH h).toList, v.oneCell' = true := one_encHL h
theorem one_encC (h : C4) : ∀ v ∈ (encC h).toList, v.oneCell' = true := one_encCL h

theorem part_of {l pre mid post : List Value} {i n : Nat} (h : l = pre ++ (mid ++ post)) (hi : pre.length = i) (hn : mid.length = n) : l.toArray.extract i (i + n) = mid.toArray := by
  subst hi; subst hn; subst h
  apply Array.toList_inj.1
  simp only [Array.toList_extract, List.extract_eq_take_drop]
  simp
theorem cell_of {l pre post : List Value} {i : Nat} {v : Value} (h : l = pre ++ ([v] ++ post)) (hi : pre.length = i) : l.toArray[i]? = some v := by
  subst hi; subst h; simp
theorem splice_of {l pre mid post mid' : List Value} {i : Nat} (h : l = pre ++ (mid ++ post)) (hi : pre.length = i) (hm : mid'.length = mid.length) : spliceL l.toArray i mid' = (pre ++ (mid' ++ post)).toArray := by
  subst hi; subst h
  rw [spliceL_eq _ _ _ (by simp; omega)]
  congr 1
  simp [hm, ← List.append_assoc]
  rw [List.append_assoc, List.take_left]
theorem set_of {l pre post : List Value} {i : Nat} {v v' : Value} (h : l = pre ++ ([v] ++ post)) (hi : pre.length = i) : l.toArray.setIfInBounds i v' = (pre ++ ([v'] ++ post)).toArray := by
  subst hi; subst h
  apply Array.toList_inj.1
  simp
theorem get_sub {l pre mid post : List Value} {i n : Nat} (h : l = pre ++ (mid ++ post)) (hi : pre.length = i) (hn : mid.length = n) (k : Nat) (hk : k < n) : l.toArray[i + k]? = mid.toArray[k]? := by
  subst hi; subst hn; subst h
  simp only [List.getElem?_toArray]
  rw [List.getElem?_append_right (by omega), List.getElem?_append_left (by omega)]
  congr 1; omega
theorem ext_sub {l pre mid post : List Value} {i n : Nat} (h : l = pre ++ (mid ++ post)) (hi : pre.length = i) (hn : mid.length = n) (a b : Nat) (hb : b ≤ n) : l.toArray.extract (i + a) (i + b) = mid.toArray.extract a b := by
  subst hi; subst hn; subst h
  apply Array.ext_getElem?
  intro k
  simp only [Array.getElem?_extract, List.getElem?_toArray, List.size_toArray, List.length_append]
  by_cases h1 : k < b - a
  · rw [if_pos (by omega), if_pos (by omega), List.getElem?_append_right (by omega), List.getElem?_append_left (by omega)]
    congr 1; omega
  · rw [if_neg (by omega), if_neg (by omega)]
theorem spl_sub {pre mid post : List Value} {l : List Value} {i n : Nat} (h : l = pre ++ (mid ++ post)) (hi : pre.length = i) (hn : mid.length = n) (k : Nat) (vs : List Value) (hk : k + vs.length ≤ n) {m : List Value} (hm : spliceL mid.toArray k vs = m.toArray) :
    spliceL l.toArray (i + k) vs = (pre ++ (m ++ post)).toArray := by
  subst hi; subst hn; subst h
  rw [spliceL_eq _ _ _ (by simp; omega)] at hm ⊢
  have e := congrArg Array.toList hm
  simp only [] at e
  subst e
  simp only [List.take_append, List.drop_append]
  simp only [show pre.length + k - pre.length = k by omega, show pre.length + k + vs.length - pre.length = k + vs.length by omega, show k - mid.length = 0 by omega]
  simp [List.take_of_length_le, List.drop_of_length_le, show pre.length ≤ pre.length + k by omega, show pre.length ≤ pre.length + (k + vs.length) by omega, Nat.add_assoc]
  rw [show k + vs.length - mid.length = 0 by omega]
  simp

def encRgL (x : Rg) : List Value := [Value.int .u32 (x.last : Int)] ++ (encCL x.counts)
def encRg (x : Rg) : Array Value := (encRgL x).toArray
theorem len_encRgL (x : Rg) : (encRgL x).length = 5 := by simp [encRgL, len_encHL, len_encCL]
@[simp, go_sem] theorem size_encRg (x : Rg) : (encRg x).size = 5 := len_encRgL x
theorem one_encRgL (x : Rg) : ∀ v ∈ encRgL x, v.oneCell' = true := by
  intro v hv
  simp only [encRgL, List.mem_append, List.mem_singleton] at hv
  rcases hv with h | h <;> first | exact one_encHL _ v h | exact one_encCL _ v h | (subst h; rfl)
theorem one_encRg (x : Rg) : ∀ v ∈ (encRg x).toList, v.oneCell' = true := one_encRgL x
theorem dec_rg_last (x : Rg) : encRgL x = (([] : List Value)) ++ (([Value.int .u32 (x.last : Int)]) ++ (encCL x.counts)) := by simp only [encRgL, List.append_assoc, List.nil_append, List.append_nil]
theorem off_rg_last (x : Rg) : (([] : List Value)).length = 0 := by simp [len_encHL, len_encCL]
@[go_sem] theorem rg_last (x : Rg) : (encRg x)[0]? = some (.int .u32 (x.last : Int)) := cell_of (i := 0) (dec_rg_last x) (off_rg_last x)
@[go_sem] theorem g_rg_last (x : Rg) (h : 0 < (encRg x).size) : (encRg x)[0]'h = .int .u32 (x.last : Int) := Option.some.inj ((Array.getElem?_eq_getElem h).symm.trans (rg_last x))
@[go_sem] theorem set_rg_last (x : Rg) (y : Nat) : (encRg x).setIfInBounds 0 (.int .u32 (y : Int)) = encRg { x with last := y } := (set_of (i := 0) (dec_rg_last x) (off_rg_last x)).trans (by rw [encRg, dec_rg_last])
theorem dec_rg_counts (x : Rg) : encRgL x = ([Value.int .u32 (x.last : Int)]) ++ ((encCL x.counts) ++ (([] : List Value))) := by simp only [encRgL, List.append_assoc, List.nil_append, List.append_nil]
theorem off_rg_counts (x : Rg) : ([Value.int .u32 (x.last : Int)]).length = 1 := by simp [len_encHL, len_encCL]
@[go_sem] theorem rg_counts (x : Rg) : (encRg x).extract 1 5 = encC x.counts := part_of (i := 1) (n := 4) (dec_rg_counts x) (off_rg_counts x) (len_encCL _)
@[go_sem] theorem set_rg_counts (x : Rg) (y : C4) : spliceL (encRg x) 1 (encC y).toList = encRg { x with counts := y } := (splice_of (i := 1) (mid' := encCL y) (dec_rg_counts x) (off_rg_counts x) (by rw [len_encCL, len_encCL])).trans (by rw [encRg, dec_rg_counts])
@[go_sem] theorem all_rg (x y : Rg) : spliceL (encRg x) 0 (encRg y).toList = encRg y := by rw [spliceL_all _ _ (by show (encRgL y).length = (encRg x).size; rw [len_encRgL, size_encRg])]
@[go_sem] theorem whole_rg (x : Rg) : (encRg x).extract 0 5 = encRg x := by have := size_encRg x; rw [← this]; exact Array.extract_size
def encWnL (x : Wn) : List Value := [Value.int .u32 (x.min : Int)] ++ (encRgL x.ring)
def encWn (x : Wn) : Array Value := (encWnL x).toArray
theorem len_encWnL (x : Wn) : (encWnL x).length = 6 := by simp [encWnL, len_encRgL, len_encHL, len_encCL]
@[simp, go_sem] theorem size_encWn (x : Wn) : (encWn x).size = 6 := len_encWnL x
theorem one_encWnL (x : Wn) : ∀ v ∈ encWnL x, v.oneCell' = true := by
  intro v hv
  simp only [encWnL, List.mem_append, List.mem_singleton] at hv
  rcases hv with h | h <;> first | exact one_encHL _ v h | exact one_encCL _ v h | exact one_encRgL _ v h | (subst h; rfl)
theorem one_encWn (x : Wn) : ∀ v ∈ (encWn x).toList, v.oneCell' = true := one_encWnL x
theorem dec_wn_min (x : Wn) : encWnL x = (([] : List Value)) ++ (([Value.int .u32 (x.min : Int)]) ++ (encRgL x.ring)) := by simp only [encWnL, List.append_assoc, List.nil_append, List.append_nil]
theorem off_wn_min (x : Wn) : (([] : List Value)).length = 0 := by simp [len_encRgL, len_encHL, len_encCL]
@[go_sem] theorem wn_min (x : Wn) : (encWn x)[0]? = some (.int .u32 (x.min : Int)) := cell_of (i := 0) (dec_wn_min x) (off_wn_min x)
@[go_sem] theorem g_wn_min (x : Wn) (h : 0 < (encWn x).size) : (encWn x)[0]'h = .int .u32 (x.min : Int) := Option.some.inj ((Array.getElem?_eq_getElem h).symm.trans (wn_min x))
@[go_sem] theorem set_wn_min (x : Wn) (y : Nat) : (encWn x).setIfInBounds 0 (.int .u32 (y : Int)) = encWn { x with min := y } := (set_of (i := 0) (dec_wn_min x) (off_wn_min x)).trans (by rw [encWn, dec_wn_min])
theorem dec_wn_ring (x : Wn) : encWnL x = ([Value.int .u32 (x.min : Int)]) ++ ((encRgL x.ring) ++ (([] : List Value))) := by simp only [encWnL, List.append_assoc, List.nil_append, List.append_nil]
theorem off_wn_ring (x : Wn) : ([Value.int .u32 (x.min : Int)]).length = 1 := by simp [len_encRgL, len_encHL, len_encCL]
@[go_sem] theorem wn_ring (x : Wn) : (encWn x).extract 1 6 = encRg x.ring := part_of (i := 1) (n := 5) (dec_wn_ring x) (off_wn_ring x) (len_encRgL _)
@[go_sem] theorem set_wn_ring (x : Wn) (y : Rg) : spliceL (encWn x) 1 (encRg y).toList = encWn { x with ring := y } := (splice_of (i := 1) (mid' := encRgL y) (dec_wn_ring x) (off_wn_ring x) (by rw [len_encRgL, len_encRgL])).trans (by rw [encWn, dec_wn_ring])
@[go_sem] theorem wn_ring_last (x : Wn) : (encWn x)[1]? = some (.int .u32 (x.ring.last : Int)) := (get_sub (i := 1) (n := 5) (dec_wn_ring x) (off_wn_ring x) (len_encRgL _) 0 (by omega)).trans (rg_last x.ring)
@[go_sem] theorem g_wn_ring_last (x : Wn) (h : 1 < (encWn x).size) : (encWn x)[1]'h = .int .u32 (x.ring.last : Int) := Option.some.inj ((Array.getElem?_eq_getElem h).symm.trans (wn_ring_last x))
@[go_sem] theorem set_wn_ring_last (x : Wn) (y : Nat) : (encWn x).setIfInBounds 1 (.int .u32 (y : Int)) = encWn { x with ring := { x.ring with last := y } } := (spl_sub (i := 1) (n := 5) (dec_wn_ring x) (off_wn_ring x) (len_encRgL _) 0 [.int .u32 (y : Int)] (by simp) (set_rg_last x.ring y)).trans (by rw [encWn, dec_wn_ring])
@[go_sem] theorem wn_ring_counts (x : Wn) : (encWn x).extract 2 6 = encC x.ring.counts := (ext_sub (i := 1) (n := 5) (dec_wn_ring x) (off_wn_ring x) (len_encRgL _) 1 5 (by omega)).trans (rg_counts x.ring)
@[go_sem] theorem set_wn_ring_counts (x : Wn) (y : C4) : spliceL (encWn x) 2 (encC y).toList = encWn { x with ring := { x.ring with counts := y } } := (spl_sub (i := 1) (n := 5) (dec_wn_ring x) (off_wn_ring x) (len_encRgL _) 1 (encC y).toList (by rw [Array.length_toList, size_encC]; omega) (set_rg_counts x.ring y)).trans (by rw [encWn, dec_wn_ring])
@[go_sem] theorem all_wn (x y : Wn) : spliceL (encWn x) 0 (encWn y).toList = encWn y := by rw [spliceL_all _ _ (by show (encWnL y).length = (encWn x).size; rw [len_encWnL, size_encWn])]
@[go_sem] theorem whole_wn (x : Wn) : (encWn x).extract 0 6 = encWn x := by have := size_encWn x; rw [← this]; exact Array.extract_size
def encDtL (x : Dt) : List Value := encHL x.ledger ++ (encHL x.seed ++ (encHL x.start ++ (encHL x.lock ++ ([Value.int .u32 (x.length : Int)]))))
def encDt (x : Dt) : Array Value := (encDtL x).toArray
theorem len_encDtL (x : Dt) : (encDtL x).length = 129 := by simp [encDtL, len_encRgL, len_encWnL, len_encHL, len_encCL]
@[simp, go_sem] theorem size_encDt (x : Dt) : (encDt x).size = 129 := len_encDtL x
theorem one_encDtL (x : Dt) : ∀ v ∈ encDtL x, v.oneCell' = true := by
  intro v hv
  simp only [encDtL, List.mem_append, List.mem_singleton] at hv
  rcases hv with h | h | h | h | h <;> first | exact one_encHL _ v h | exact one_encCL _ v h | exact one_encRgL _ v h | exact one_encWnL _ v h | (subst h; rfl)
theorem one_encDt (x : Dt) : ∀ v ∈ (encDt x).toList, v.oneCell' = true := one_encDtL x
theorem dec_dt_ledger (x : Dt) : encDtL x = (([] : List Value)) ++ ((encHL x.ledger) ++ (encHL x.seed ++ (encHL x.start ++ (encHL x.lock ++ ([Value.int .u32 (x.length : Int)]))))) := by simp only [encDtL, List.append_assoc, List.nil_append, List.append_nil]
theorem off_dt_ledger (x : Dt) : (([] : List Value)).length = 0 := by simp [len_encRgL, len_encWnL, len_encHL, len_encCL]
@[go_sem] theorem dt_ledger (x : Dt) : (encDt x).extract 0 32 = encH x.ledger := part_of (i := 0) (n := 32) (dec_dt_ledger x) (off_dt_ledger x) (len_encHL _)
@[go_sem] theorem set_dt_ledger (x : Dt) (y : H32) : spliceL (encDt x) 0 (encH y).toList = encDt { x with ledger := y } := (splice_of (i := 0) (mid' := encHL y) (dec_dt_ledger x) (off_dt_ledger x) (by rw [len_encHL, len_encHL])).trans (by rw [encDt, dec_dt_ledger])
theorem dec_dt_seed (x : Dt) : encDtL x = (encHL x.ledger) ++ ((encHL x.seed) ++ (encHL x.start ++ (encHL x.lock ++ ([Value.int .u32 (x.length : Int)])))) := by simp only [encDtL, List.append_assoc, List.nil_append, List.append_nil]
theorem off_dt_seed (x : Dt) : (encHL x.ledger).length = 32 := by simp [len_encRgL, len_encWnL, len_encHL, len_encCL]
@[go_sem] theorem dt_seed (x : Dt) : (encDt x).extract 32 64 = encH x.seed := part_of (i := 32) (n := 32) (dec_dt_seed x) (off_dt_seed x) (len_encHL _)
@[go_sem] theorem set_dt_seed (x : Dt) (y : H32) : spliceL (encDt x) 32 (encH y).toList = encDt { x with seed := y } := (splice_of (i := 32) (mid' := encHL y) (dec_dt_seed x) (off_dt_seed x) (by rw [len_encHL, len_encHL])).trans (by rw [encDt, dec_dt_seed])
theorem dec_dt_start (x : Dt) : encDtL x = (encHL x.ledger ++ (encHL x.seed)) ++ ((encHL x.start) ++ (encHL x.lock ++ ([Value.int .u32 (x.length : Int)]))) := by simp only [encDtL, List.append_assoc, List.nil_append, List.append_nil]
theorem off_dt_start (x : Dt) : (encHL x.ledger ++ (encHL x.seed)).length = 64 := by simp [len_encRgL, len_encWnL, len_encHL, len_encCL]
@[go_sem] theorem dt_start (x : Dt) : (encDt x).extract 64 96 = encH x.start := part_of (i := 64) (n := 32) (dec_dt_start x) (off_dt_start x) (len_encHL _)
@[go_sem] theorem set_dt_start (x : Dt) (y : H32) : spliceL (encDt x) 64 (encH y).toList = encDt { x with start := y } := (splice_of (i := 64) (mid' := encHL y) (dec_dt_start x) (off_dt_start x) (by rw [len_encHL, len_encHL])).trans (by rw [encDt, dec_dt_start])
theorem dec_dt_lock (x : Dt) : encDtL x = (encHL x.ledger ++ (encHL x.seed ++ (encHL x.start))) ++ ((encHL x.lock) ++ ([Value.int .u32 (x.length : Int)])) := by simp only [encDtL, List.append_assoc, List.nil_append, List.append_nil]
theorem off_dt_lock (x : Dt) : (encHL x.ledger ++ (encHL x.seed ++ (encHL x.start))).length = 96 := by simp [len_encRgL, len_encWnL, len_encHL, len_encCL]
@[go_sem] theorem dt_lock (x : Dt) : (encDt x).extract 96 128 = encH x.lock := part_of (i := 96) (n := 32) (dec_dt_lock x) (off_dt_lock x) (len_encHL _)
@[go_sem] theorem set_dt_lock (x : Dt) (y : H32) : spliceL (encDt x) 96 (encH y).toList = encDt { x with lock := y } := (splice_of (i := 96) (mid' := encHL y) (dec_dt_lock x) (off_dt_lock x) (by rw [len_encHL, len_encHL])).trans (by rw [encDt, dec_dt_lock])
theorem dec_dt_length (x : Dt) : encDtL x = (encHL x.ledger ++ (encHL x.seed ++ (encHL x.start ++ (encHL x.lock)))) ++ (([Value.int .u32 (x.length : Int)]) ++ (([] : List Value))) := by simp only [encDtL, List.append_assoc, List.nil_append, List.append_nil]
theorem off_dt_length (x : Dt) : (encHL x.ledger ++ (encHL x.seed ++ (encHL x.start ++ (encHL x.lock)))).length = 128 := by simp [len_encRgL, len_encWnL, len_encHL, len_encCL]
@[go_sem] theorem dt_length (x : Dt) : (encDt x)[128]? = some (.int .u32 (x.length : Int)) := cell_of (i := 128) (dec_dt_length x) (off_dt_length x)
@[go_sem] theorem g_dt_length (x : Dt) (h : 128 < (encDt x).size) : (encDt x)[128]'h = .int .u32 (x.length : Int) := Option.some.inj ((Array.getElem?_eq_getElem h).symm.trans (dt_length x))
@[go_sem] theorem set_dt_length (x : Dt) (y : Nat) : (encDt x).setIfInBounds 128 (.int .u32 (y : Int)) = encDt { x with length := y } := (set_of (i := 128) (dec_dt_length x) (off_dt_length x)).trans (by rw [encDt, dec_dt_length])
@[go_sem] theorem all_dt (x y : Dt) : spliceL (encDt x) 0 (encDt y).toList = encDt y := by rw [spliceL_all _ _ (by show (encDtL y).length = (encDt x).size; rw [len_encDtL, size_encDt])]
@[go_sem] theorem whole_dt (x : Dt) : (encDt x).extract 0 129 = encDt x := by have := size_encDt x; rw [← this]; exact Array.extract_size
def encPrL (x : Pr) : List Value := encDtL x.now ++ (encDtL x.next)
def encPr (x : Pr) : Array Value := (encPrL x).toArray
theorem len_encPrL (x : Pr) : (encPrL x).length = 258 := by simp [encPrL, len_encRgL, len_encWnL, len_encDtL, len_encHL, len_encCL]
@[simp, go_sem] theorem size_encPr (x : Pr) : (encPr x).size = 258 := len_encPrL x
theorem one_encPrL (x : Pr) : ∀ v ∈ encPrL x, v.oneCell' = true := by
  intro v hv
  simp only [encPrL, List.mem_append, List.mem_singleton] at hv
  rcases hv with h | h <;> first | exact one_encHL _ v h | exact one_encCL _ v h | exact one_encRgL _ v h | exact one_encWnL _ v h | exact one_encDtL _ v h | (subst h; rfl)
theorem one_encPr (x : Pr) : ∀ v ∈ (encPr x).toList, v.oneCell' = true := one_encPrL x
theorem dec_pr_now (x : Pr) : encPrL x = (([] : List Value)) ++ ((encDtL x.now) ++ (encDtL x.next)) := by simp only [encPrL, List.append_assoc, List.nil_append, List.append_nil]
theorem off_pr_now (x : Pr) : (([] : List Value)).length = 0 := by simp [len_encRgL, len_encWnL, len_encDtL, len_encHL, len_encCL]
@[go_sem] theorem pr_now (x : Pr) : (encPr x).extract 0 129 = encDt x.now := part_of (i := 0) (n := 129) (dec_pr_now x) (off_pr_now x) (len_encDtL _)
@[go_sem] theorem set_pr_now (x : Pr) (y : Dt) : spliceL (encPr x) 0 (encDt y).toList = encPr { x with now := y } := (splice_of (i := 0) (mid' := encDtL y) (dec_pr_now x) (off_pr_now x) (by rw [len_encDtL, len_encDtL])).trans (by rw [encPr, dec_pr_now])
@[go_sem] theorem pr_now_ledger (x : Pr) : (encPr x).extract 0 32 = encH x.now.ledger := (ext_sub (i := 0) (n := 129) (dec_pr_now x) (off_pr_now x) (len_encDtL _) 0 32 (by omega)).trans (dt_ledger x.now)
@[go_sem] theorem set_pr_now_ledger (x : Pr) (y : H32) : spliceL (encPr x) 0 (encH y).toList = encPr { x with now := { x.now with ledger := y } } := (spl_sub (i := 0) (n := 129) (dec_pr_now x) (off_pr_now x) (len_encDtL _) 0 (encH y).toList (by rw [Array.length_toList, size_encH]; omega) (set_dt_ledger x.now y)).trans (by rw [encPr, dec_pr_now])
@[go_sem] theorem pr_now_seed (x : Pr) : (encPr x).extract 32 64 = encH x.now.seed := (ext_sub (i := 0) (n := 129) (dec_pr_now x) (off_pr_now x) (len_encDtL _) 32 64 (by omega)).trans (dt_seed x.now)
@[go_sem] theorem set_pr_now_seed (x : Pr) (y : H32) : spliceL (encPr x) 32 (encH y).toList = encPr { x with now := { x.now with seed := y } } := (spl_sub (i := 0) (n := 129) (dec_pr_now x) (off_pr_now x) (len_encDtL _) 32 (encH y).toList (by rw [Array.length_toList, size_encH]; omega) (set_dt_seed x.now y)).trans (by rw [encPr, dec_pr_now])
@[go_sem] theorem pr_now_start (x : Pr) : (encPr x).extract 64 96 = encH x.now.start := (ext_sub (i := 0) (n := 129) (dec_pr_now x) (off_pr_now x) (len_encDtL _) 64 96 (by omega)).trans (dt_start x.now)
@[go_sem] theorem set_pr_now_start (x : Pr) (y : H32) : spliceL (encPr x) 64 (encH y).toList = encPr { x with now := { x.now with start := y } } := (spl_sub (i := 0) (n := 129) (dec_pr_now x) (off_pr_now x) (len_encDtL _) 64 (encH y).toList (by rw [Array.length_toList, size_encH]; omega) (set_dt_start x.now y)).trans (by rw [encPr, dec_pr_now])
@[go_sem] theorem pr_now_lock (x : Pr) : (encPr x).extract 96 128 = encH x.now.lock := (ext_sub (i := 0) (n := 129) (dec_pr_now x) (off_pr_now x) (len_encDtL _) 96 128 (by omega)).trans (dt_lock x.now)
@[go_sem] theorem set_pr_now_lock (x : Pr) (y : H32) : spliceL (encPr x) 96 (encH y).toList = encPr { x with now := { x.now with lock := y } } := (spl_sub (i := 0) (n := 129) (dec_pr_now x) (off_pr_now x) (len_encDtL _) 96 (encH y).toList (by rw [Array.length_toList, size_encH]; omega) (set_dt_lock x.now y)).trans (by rw [encPr, dec_pr_now])
@[go_sem] theorem pr_now_length (x : Pr) : (encPr x)[128]? = some (.int .u32 (x.now.length : Int)) := (get_sub (i := 0) (n := 129) (dec_pr_now x) (off_pr_now x) (len_encDtL _) 128 (by omega)).trans (dt_length x.now)
@[go_sem] theorem g_pr_now_length (x : Pr) (h : 128 < (encPr x).size) : (encPr x)[128]'h = .int .u32 (x.now.length : Int) := Option.some.inj ((Array.getElem?_eq_getElem h).symm.trans (pr_now_length x))
@[go_sem] theorem set_pr_now_length (x : Pr) (y : Nat) : (encPr x).setIfInBounds 128 (.int .u32 (y : Int)) = encPr { x with now := { x.now with length := y } } := (spl_sub (i := 0) (n := 129) (dec_pr_now x) (off_pr_now x) (len_encDtL _) 128 [.int .u32 (y : Int)] (by simp) (set_dt_length x.now y)).trans (by rw [encPr, dec_pr_now])
theorem dec_pr_next (x : Pr) : encPrL x = (encDtL x.now) ++ ((encDtL x.next) ++ (([] : List Value))) := by simp only [encPrL, List.append_assoc, List.nil_append, List.append_nil]
theorem off_pr_next (x : Pr) : (encDtL x.now).length = 129 := by simp [len_encRgL, len_encWnL, len_encDtL, len_encHL, len_encCL]
@[go_sem] theorem pr_next (x : Pr) : (encPr x).extract 129 258 = encDt x.next := part_of (i := 129) (n := 129) (dec_pr_next x) (off_pr_next x) (len_encDtL _)
@[go_sem] theorem set_pr_next (x : Pr) (y : Dt) : spliceL (encPr x) 129 (encDt y).toList = encPr { x with next := y } := (splice_of (i := 129) (mid' := encDtL y) (dec_pr_next x) (off_pr_next x) (by rw [len_encDtL, len_encDtL])).trans (by rw [encPr, dec_pr_next])
@[go_sem] theorem pr_next_ledger (x : Pr) : (encPr x).extract 129 161 = encH x.next.ledger := (ext_sub (i := 129) (n := 129) (dec_pr_next x) (off_pr_next x) (len_encDtL _) 0 32 (by omega)).trans (dt_ledger x.next)
@[go_sem] theorem set_pr_next_ledger (x : Pr) (y : H32) : spliceL (encPr x) 129 (encH y).toList = encPr { x with next := { x.next with ledger := y } } := (spl_sub (i := 129) (n := 129) (dec_pr_next x) (off_pr_next x) (len_encDtL _) 0 (encH y).toList (by rw [Array.length_toList, size_encH]; omega) (set_dt_ledger x.next y)).trans (by rw [encPr, dec_pr_next])
@[go_sem] theorem pr_next_seed (x : Pr) : (encPr x).extract 161 193 = encH x.next.seed := (ext_sub (i := 129) (n := 129) (dec_pr_next x) (off_pr_next x) (len_encDtL _) 32 64 (by omega)).trans (dt_seed x.next)
@[go_sem] theorem set_pr_next_seed (x : Pr) (y : H32) : spliceL (encPr x) 161 (encH y).toList = encPr { x with next := { x.next with seed := y } } := (spl_sub (i := 129) (n := 129) (dec_pr_next x) (off_pr_next x) (len_encDtL _) 32 (encH y).toList (by rw [Array.length_toList, size_encH]; omega) (set_dt_seed x.next y)).trans (by rw [encPr, dec_pr_next])
@[go_sem] theorem pr_next_start (x : Pr) : (encPr x).extract 193 225 = encH x.next.start := (ext_sub (i := 129) (n := 129) (dec_pr_next x) (off_pr_next x) (len_encDtL _) 64 96 (by omega)).trans (dt_start x.next)
@[go_sem] theorem set_pr_next_start (x : Pr) (y : H32) : spliceL (encPr x) 193 (encH y).toList = encPr { x with next := { x.next with start := y } } := (spl_sub (i := 129) (n := 129) (dec_pr_next x) (off_pr_next x) (len_encDtL _) 64 (encH y).toList (by rw [Array.length_toList, size_encH]; omega) (set_dt_start x.next y)).trans (by rw [encPr, dec_pr_next])
@[go_sem] theorem pr_next_lock (x : Pr) : (encPr x).extract 225 257 = encH x.next.lock := (ext_sub (i := 129) (n := 129) (dec_pr_next x) (off_pr_next x) (len_encDtL _) 96 128 (by omega)).trans (dt_lock x.next)
@[go_sem] theorem set_pr_next_lock (x : Pr) (y : H32) : spliceL (encPr x) 225 (encH y).toList = encPr { x with next := { x.next with lock := y } } := (spl_sub (i := 129) (n := 129) (dec_pr_next x) (off_pr_next x) (len_encDtL _) 96 (encH y).toList (by rw [Array.length_toList, size_encH]; omega) (set_dt_lock x.next y)).trans (by rw [encPr, dec_pr_next])
@[go_sem] theorem pr_next_length (x : Pr) : (encPr x)[257]? = some (.int .u32 (x.next.length : Int)) := (get_sub (i := 129) (n := 129) (dec_pr_next x) (off_pr_next x) (len_encDtL _) 128 (by omega)).trans (dt_length x.next)
@[go_sem] theorem g_pr_next_length (x : Pr) (h : 257 < (encPr x).size) : (encPr x)[257]'h = .int .u32 (x.next.length : Int) := Option.some.inj ((Array.getElem?_eq_getElem h).symm.trans (pr_next_length x))
@[go_sem] theorem set_pr_next_length (x : Pr) (y : Nat) : (encPr x).setIfInBounds 257 (.int .u32 (y : Int)) = encPr { x with next := { x.next with length := y } } := (spl_sub (i := 129) (n := 129) (dec_pr_next x) (off_pr_next x) (len_encDtL _) 128 [.int .u32 (y : Int)] (by simp) (set_dt_length x.next y)).trans (by rw [encPr, dec_pr_next])
@[go_sem] theorem all_pr (x y : Pr) : spliceL (encPr x) 0 (encPr y).toList = encPr y := by rw [spliceL_all _ _ (by show (encPrL y).length = (encPr x).size; rw [len_encPrL, size_encPr])]
@[go_sem] theorem whole_pr (x : Pr) : (encPr x).extract 0 258 = encPr x := by have := size_encPr x; rw [← this]; exact Array.extract_size
def encStL (x : St) : List Value := encHL x.prev ++ (encHL x.ledger ++ (encHL x.draw ++ ([Value.int .u32 (x.slot : Int)] ++ ([Value.int .u32 (x.length : Int)] ++ ([Value.int .u32 (x.count : Int)] ++ (encWnL x.win ++ (encPrL x.epochs)))))))
def encSt (x : St) : Array Value := (encStL x).toArray
theorem len_encStL (x : St) : (encStL x).length = 363 := by simp [encStL, len_encRgL, len_encWnL, len_encDtL, len_encPrL, len_encHL, len_encCL]
@[simp, go_sem] theorem size_encSt (x : St) : (encSt x).size = 363 := len_encStL x
theorem one_encStL (x : St) : ∀ v ∈ encStL x, v.oneCell' = true := by
  intro v hv
  simp only [encStL, List.mem_append, List.mem_singleton] at hv
  rcases hv with h | h | h | h | h | h | h | h <;> first | exact one_encHL _ v h | exact one_encCL _ v h | exact one_encRgL _ v h | exact one_encWnL _ v h | exact one_encDtL _ v h | exact one_encPrL _ v h | (subst h; rfl)
theorem one_encSt (x : St) : ∀ v ∈ (encSt x).toList, v.oneCell' = true := one_encStL x
theorem dec_st_prev (x : St) : encStL x = (([] : List Value)) ++ ((encHL x.prev) ++ (encHL x.ledger ++ (encHL x.draw ++ ([Value.int .u32 (x.slot : Int)] ++ ([Value.int .u32 (x.length : Int)] ++ ([Value.int .u32 (x.count : Int)] ++ (encWnL x.win ++ (encPrL x.epochs)))))))) := by simp only [encStL, List.append_assoc, List.nil_append, List.append_nil]
theorem off_st_prev (x : St) : (([] : List Value)).length = 0 := by simp [len_encRgL, len_encWnL, len_encDtL, len_encPrL, len_encHL, len_encCL]
@[go_sem] theorem st_prev (x : St) : (encSt x).extract 0 32 = encH x.prev := part_of (i := 0) (n := 32) (dec_st_prev x) (off_st_prev x) (len_encHL _)
@[go_sem] theorem set_st_prev (x : St) (y : H32) : spliceL (encSt x) 0 (encH y).toList = encSt { x with prev := y } := (splice_of (i := 0) (mid' := encHL y) (dec_st_prev x) (off_st_prev x) (by rw [len_encHL, len_encHL])).trans (by rw [encSt, dec_st_prev])
theorem dec_st_ledger (x : St) : encStL x = (encHL x.prev) ++ ((encHL x.ledger) ++ (encHL x.draw ++ ([Value.int .u32 (x.slot : Int)] ++ ([Value.int .u32 (x.length : Int)] ++ ([Value.int .u32 (x.count : Int)] ++ (encWnL x.win ++ (encPrL x.epochs))))))) := by simp only [encStL, List.append_assoc, List.nil_append, List.append_nil]
theorem off_st_ledger (x : St) : (encHL x.prev).length = 32 := by simp [len_encRgL, len_encWnL, len_encDtL, len_encPrL, len_encHL, len_encCL]
@[go_sem] theorem st_ledger (x : St) : (encSt x).extract 32 64 = encH x.ledger := part_of (i := 32) (n := 32) (dec_st_ledger x) (off_st_ledger x) (len_encHL _)
@[go_sem] theorem set_st_ledger (x : St) (y : H32) : spliceL (encSt x) 32 (encH y).toList = encSt { x with ledger := y } := (splice_of (i := 32) (mid' := encHL y) (dec_st_ledger x) (off_st_ledger x) (by rw [len_encHL, len_encHL])).trans (by rw [encSt, dec_st_ledger])
theorem dec_st_draw (x : St) : encStL x = (encHL x.prev ++ (encHL x.ledger)) ++ ((encHL x.draw) ++ ([Value.int .u32 (x.slot : Int)] ++ ([Value.int .u32 (x.length : Int)] ++ ([Value.int .u32 (x.count : Int)] ++ (encWnL x.win ++ (encPrL x.epochs)))))) := by simp only [encStL, List.append_assoc, List.nil_append, List.append_nil]
theorem off_st_draw (x : St) : (encHL x.prev ++ (encHL x.ledger)).length = 64 := by simp [len_encRgL, len_encWnL, len_encDtL, len_encPrL, len_encHL, len_encCL]
@[go_sem] theorem st_draw (x : St) : (encSt x).extract 64 96 = encH x.draw := part_of (i := 64) (n := 32) (dec_st_draw x) (off_st_draw x) (len_encHL _)
@[go_sem] theorem set_st_draw (x : St) (y : H32) : spliceL (encSt x) 64 (encH y).toList = encSt { x with draw := y } := (splice_of (i := 64) (mid' := encHL y) (dec_st_draw x) (off_st_draw x) (by rw [len_encHL, len_encHL])).trans (by rw [encSt, dec_st_draw])
theorem dec_st_slot (x : St) : encStL x = (encHL x.prev ++ (encHL x.ledger ++ (encHL x.draw))) ++ (([Value.int .u32 (x.slot : Int)]) ++ ([Value.int .u32 (x.length : Int)] ++ ([Value.int .u32 (x.count : Int)] ++ (encWnL x.win ++ (encPrL x.epochs))))) := by simp only [encStL, List.append_assoc, List.nil_append, List.append_nil]
theorem off_st_slot (x : St) : (encHL x.prev ++ (encHL x.ledger ++ (encHL x.draw))).length = 96 := by simp [len_encRgL, len_encWnL, len_encDtL, len_encPrL, len_encHL, len_encCL]
@[go_sem] theorem st_slot (x : St) : (encSt x)[96]? = some (.int .u32 (x.slot : Int)) := cell_of (i := 96) (dec_st_slot x) (off_st_slot x)
@[go_sem] theorem g_st_slot (x : St) (h : 96 < (encSt x).size) : (encSt x)[96]'h = .int .u32 (x.slot : Int) := Option.some.inj ((Array.getElem?_eq_getElem h).symm.trans (st_slot x))
@[go_sem] theorem set_st_slot (x : St) (y : Nat) : (encSt x).setIfInBounds 96 (.int .u32 (y : Int)) = encSt { x with slot := y } := (set_of (i := 96) (dec_st_slot x) (off_st_slot x)).trans (by rw [encSt, dec_st_slot])
theorem dec_st_length (x : St) : encStL x = (encHL x.prev ++ (encHL x.ledger ++ (encHL x.draw ++ ([Value.int .u32 (x.slot : Int)])))) ++ (([Value.int .u32 (x.length : Int)]) ++ ([Value.int .u32 (x.count : Int)] ++ (encWnL x.win ++ (encPrL x.epochs)))) := by simp only [encStL, List.append_assoc, List.nil_append, List.append_nil]
theorem off_st_length (x : St) : (encHL x.prev ++ (encHL x.ledger ++ (encHL x.draw ++ ([Value.int .u32 (x.slot : Int)])))).length = 97 := by simp [len_encRgL, len_encWnL, len_encDtL, len_encPrL, len_encHL, len_encCL]
@[go_sem] theorem st_length (x : St) : (encSt x)[97]? = some (.int .u32 (x.length : Int)) := cell_of (i := 97) (dec_st_length x) (off_st_length x)
@[go_sem] theorem g_st_length (x : St) (h : 97 < (encSt x).size) : (encSt x)[97]'h = .int .u32 (x.length : Int) := Option.some.inj ((Array.getElem?_eq_getElem h).symm.trans (st_length x))
@[go_sem] theorem set_st_length (x : St) (y : Nat) : (encSt x).setIfInBounds 97 (.int .u32 (y : Int)) = encSt { x with length := y } := (set_of (i := 97) (dec_st_length x) (off_st_length x)).trans (by rw [encSt, dec_st_length])
theorem dec_st_count (x : St) : encStL x = (encHL x.prev ++ (encHL x.ledger ++ (encHL x.draw ++ ([Value.int .u32 (x.slot : Int)] ++ ([Value.int .u32 (x.length : Int)]))))) ++ (([Value.int .u32 (x.count : Int)]) ++ (encWnL x.win ++ (encPrL x.epochs))) := by simp only [encStL, List.append_assoc, List.nil_append, List.append_nil]
theorem off_st_count (x : St) : (encHL x.prev ++ (encHL x.ledger ++ (encHL x.draw ++ ([Value.int .u32 (x.slot : Int)] ++ ([Value.int .u32 (x.length : Int)]))))).length = 98 := by simp [len_encRgL, len_encWnL, len_encDtL, len_encPrL, len_encHL, len_encCL]
@[go_sem] theorem st_count (x : St) : (encSt x)[98]? = some (.int .u32 (x.count : Int)) := cell_of (i := 98) (dec_st_count x) (off_st_count x)
@[go_sem] theorem g_st_count (x : St) (h : 98 < (encSt x).size) : (encSt x)[98]'h = .int .u32 (x.count : Int) := Option.some.inj ((Array.getElem?_eq_getElem h).symm.trans (st_count x))
@[go_sem] theorem set_st_count (x : St) (y : Nat) : (encSt x).setIfInBounds 98 (.int .u32 (y : Int)) = encSt { x with count := y } := (set_of (i := 98) (dec_st_count x) (off_st_count x)).trans (by rw [encSt, dec_st_count])
theorem dec_st_win (x : St) : encStL x = (encHL x.prev ++ (encHL x.ledger ++ (encHL x.draw ++ ([Value.int .u32 (x.slot : Int)] ++ ([Value.int .u32 (x.length : Int)] ++ ([Value.int .u32 (x.count : Int)])))))) ++ ((encWnL x.win) ++ (encPrL x.epochs)) := by simp only [encStL, List.append_assoc, List.nil_append, List.append_nil]
theorem off_st_win (x : St) : (encHL x.prev ++ (encHL x.ledger ++ (encHL x.draw ++ ([Value.int .u32 (x.slot : Int)] ++ ([Value.int .u32 (x.length : Int)] ++ ([Value.int .u32 (x.count : Int)])))))).length = 99 := by simp [len_encRgL, len_encWnL, len_encDtL, len_encPrL, len_encHL, len_encCL]
@[go_sem] theorem st_win (x : St) : (encSt x).extract 99 105 = encWn x.win := part_of (i := 99) (n := 6) (dec_st_win x) (off_st_win x) (len_encWnL _)
@[go_sem] theorem set_st_win (x : St) (y : Wn) : spliceL (encSt x) 99 (encWn y).toList = encSt { x with win := y } := (splice_of (i := 99) (mid' := encWnL y) (dec_st_win x) (off_st_win x) (by rw [len_encWnL, len_encWnL])).trans (by rw [encSt, dec_st_win])
@[go_sem] theorem st_win_min (x : St) : (encSt x)[99]? = some (.int .u32 (x.win.min : Int)) := (get_sub (i := 99) (n := 6) (dec_st_win x) (off_st_win x) (len_encWnL _) 0 (by omega)).trans (wn_min x.win)
@[go_sem] theorem g_st_win_min (x : St) (h : 99 < (encSt x).size) : (encSt x)[99]'h = .int .u32 (x.win.min : Int) := Option.some.inj ((Array.getElem?_eq_getElem h).symm.trans (st_win_min x))
@[go_sem] theorem set_st_win_min (x : St) (y : Nat) : (encSt x).setIfInBounds 99 (.int .u32 (y : Int)) = encSt { x with win := { x.win with min := y } } := (spl_sub (i := 99) (n := 6) (dec_st_win x) (off_st_win x) (len_encWnL _) 0 [.int .u32 (y : Int)] (by simp) (set_wn_min x.win y)).trans (by rw [encSt, dec_st_win])
@[go_sem] theorem st_win_ring (x : St) : (encSt x).extract 100 105 = encRg x.win.ring := (ext_sub (i := 99) (n := 6) (dec_st_win x) (off_st_win x) (len_encWnL _) 1 6 (by omega)).trans (wn_ring x.win)
@[go_sem] theorem set_st_win_ring (x : St) (y : Rg) : spliceL (encSt x) 100 (encRg y).toList = encSt { x with win := { x.win with ring := y } } := (spl_sub (i := 99) (n := 6) (dec_st_win x) (off_st_win x) (len_encWnL _) 1 (encRg y).toList (by rw [Array.length_toList, size_encRg]; omega) (set_wn_ring x.win y)).trans (by rw [encSt, dec_st_win])
@[go_sem] theorem st_win_ring_last (x : St) : (encSt x)[100]? = some (.int .u32 (x.win.ring.last : Int)) := (get_sub (i := 99) (n := 6) (dec_st_win x) (off_st_win x) (len_encWnL _) 1 (by omega)).trans (wn_ring_last x.win)
@[go_sem] theorem g_st_win_ring_last (x : St) (h : 100 < (encSt x).size) : (encSt x)[100]'h = .int .u32 (x.win.ring.last : Int) := Option.some.inj ((Array.getElem?_eq_getElem h).symm.trans (st_win_ring_last x))
@[go_sem] theorem set_st_win_ring_last (x : St) (y : Nat) : (encSt x).setIfInBounds 100 (.int .u32 (y : Int)) = encSt { x with win := { x.win with ring := { x.win.ring with last := y } } } := (spl_sub (i := 99) (n := 6) (dec_st_win x) (off_st_win x) (len_encWnL _) 1 [.int .u32 (y : Int)] (by simp) (set_wn_ring_last x.win y)).trans (by rw [encSt, dec_st_win])
@[go_sem] theorem st_win_ring_counts (x : St) : (encSt x).extract 101 105 = encC x.win.ring.counts := (ext_sub (i := 99) (n := 6) (dec_st_win x) (off_st_win x) (len_encWnL _) 2 6 (by omega)).trans (wn_ring_counts x.win)
@[go_sem] theorem set_st_win_ring_counts (x : St) (y : C4) : spliceL (encSt x) 101 (encC y).toList = encSt { x with win := { x.win with ring := { x.win.ring with counts := y } } } := (spl_sub (i := 99) (n := 6) (dec_st_win x) (off_st_win x) (len_encWnL _) 2 (encC y).toList (by rw [Array.length_toList, size_encC]; omega) (set_wn_ring_counts x.win y)).trans (by rw [encSt, dec_st_win])
theorem dec_st_epochs (x : St) : encStL x = (encHL x.prev ++ (encHL x.ledger ++ (encHL x.draw ++ ([Value.int .u32 (x.slot : Int)] ++ ([Value.int .u32 (x.length : Int)] ++ ([Value.int .u32 (x.count : Int)] ++ (encWnL x.win))))))) ++ ((encPrL x.epochs) ++ (([] : List Value))) := by simp only [encStL, List.append_assoc, List.nil_append, List.append_nil]
theorem off_st_epochs (x : St) : (encHL x.prev ++ (encHL x.ledger ++ (encHL x.draw ++ ([Value.int .u32 (x.slot : Int)] ++ ([Value.int .u32 (x.length : Int)] ++ ([Value.int .u32 (x.count : Int)] ++ (encWnL x.win))))))).length = 105 := by simp [len_encRgL, len_encWnL, len_encDtL, len_encPrL, len_encHL, len_encCL]
@[go_sem] theorem st_epochs (x : St) : (encSt x).extract 105 363 = encPr x.epochs := part_of (i := 105) (n := 258) (dec_st_epochs x) (off_st_epochs x) (len_encPrL _)
@[go_sem] theorem set_st_epochs (x : St) (y : Pr) : spliceL (encSt x) 105 (encPr y).toList = encSt { x with epochs := y } := (splice_of (i := 105) (mid' := encPrL y) (dec_st_epochs x) (off_st_epochs x) (by rw [len_encPrL, len_encPrL])).trans (by rw [encSt, dec_st_epochs])
@[go_sem] theorem st_epochs_now (x : St) : (encSt x).extract 105 234 = encDt x.epochs.now := (ext_sub (i := 105) (n := 258) (dec_st_epochs x) (off_st_epochs x) (len_encPrL _) 0 129 (by omega)).trans (pr_now x.epochs)
@[go_sem] theorem set_st_epochs_now (x : St) (y : Dt) : spliceL (encSt x) 105 (encDt y).toList = encSt { x with epochs := { x.epochs with now := y } } := (spl_sub (i := 105) (n := 258) (dec_st_epochs x) (off_st_epochs x) (len_encPrL _) 0 (encDt y).toList (by rw [Array.length_toList, size_encDt]; omega) (set_pr_now x.epochs y)).trans (by rw [encSt, dec_st_epochs])
@[go_sem] theorem st_epochs_now_ledger (x : St) : (encSt x).extract 105 137 = encH x.epochs.now.ledger := (ext_sub (i := 105) (n := 258) (dec_st_epochs x) (off_st_epochs x) (len_encPrL _) 0 32 (by omega)).trans (pr_now_ledger x.epochs)
@[go_sem] theorem set_st_epochs_now_ledger (x : St) (y : H32) : spliceL (encSt x) 105 (encH y).toList = encSt { x with epochs := { x.epochs with now := { x.epochs.now with ledger := y } } } := (spl_sub (i := 105) (n := 258) (dec_st_epochs x) (off_st_epochs x) (len_encPrL _) 0 (encH y).toList (by rw [Array.length_toList, size_encH]; omega) (set_pr_now_ledger x.epochs y)).trans (by rw [encSt, dec_st_epochs])
@[go_sem] theorem st_epochs_now_seed (x : St) : (encSt x).extract 137 169 = encH x.epochs.now.seed := (ext_sub (i := 105) (n := 258) (dec_st_epochs x) (off_st_epochs x) (len_encPrL _) 32 64 (by omega)).trans (pr_now_seed x.epochs)
@[go_sem] theorem set_st_epochs_now_seed (x : St) (y : H32) : spliceL (encSt x) 137 (encH y).toList = encSt { x with epochs := { x.epochs with now := { x.epochs.now with seed := y } } } := (spl_sub (i := 105) (n := 258) (dec_st_epochs x) (off_st_epochs x) (len_encPrL _) 32 (encH y).toList (by rw [Array.length_toList, size_encH]; omega) (set_pr_now_seed x.epochs y)).trans (by rw [encSt, dec_st_epochs])
@[go_sem] theorem st_epochs_now_start (x : St) : (encSt x).extract 169 201 = encH x.epochs.now.start := (ext_sub (i := 105) (n := 258) (dec_st_epochs x) (off_st_epochs x) (len_encPrL _) 64 96 (by omega)).trans (pr_now_start x.epochs)
@[go_sem] theorem set_st_epochs_now_start (x : St) (y : H32) : spliceL (encSt x) 169 (encH y).toList = encSt { x with epochs := { x.epochs with now := { x.epochs.now with start := y } } } := (spl_sub (i := 105) (n := 258) (dec_st_epochs x) (off_st_epochs x) (len_encPrL _) 64 (encH y).toList (by rw [Array.length_toList, size_encH]; omega) (set_pr_now_start x.epochs y)).trans (by rw [encSt, dec_st_epochs])
@[go_sem] theorem st_epochs_now_lock (x : St) : (encSt x).extract 201 233 = encH x.epochs.now.lock := (ext_sub (i := 105) (n := 258) (dec_st_epochs x) (off_st_epochs x) (len_encPrL _) 96 128 (by omega)).trans (pr_now_lock x.epochs)
@[go_sem] theorem set_st_epochs_now_lock (x : St) (y : H32) : spliceL (encSt x) 201 (encH y).toList = encSt { x with epochs := { x.epochs with now := { x.epochs.now with lock := y } } } := (spl_sub (i := 105) (n := 258) (dec_st_epochs x) (off_st_epochs x) (len_encPrL _) 96 (encH y).toList (by rw [Array.length_toList, size_encH]; omega) (set_pr_now_lock x.epochs y)).trans (by rw [encSt, dec_st_epochs])
@[go_sem] theorem st_epochs_now_length (x : St) : (encSt x)[233]? = some (.int .u32 (x.epochs.now.length : Int)) := (get_sub (i := 105) (n := 258) (dec_st_epochs x) (off_st_epochs x) (len_encPrL _) 128 (by omega)).trans (pr_now_length x.epochs)
@[go_sem] theorem g_st_epochs_now_length (x : St) (h : 233 < (encSt x).size) : (encSt x)[233]'h = .int .u32 (x.epochs.now.length : Int) := Option.some.inj ((Array.getElem?_eq_getElem h).symm.trans (st_epochs_now_length x))
@[go_sem] theorem set_st_epochs_now_length (x : St) (y : Nat) : (encSt x).setIfInBounds 233 (.int .u32 (y : Int)) = encSt { x with epochs := { x.epochs with now := { x.epochs.now with length := y } } } := (spl_sub (i := 105) (n := 258) (dec_st_epochs x) (off_st_epochs x) (len_encPrL _) 128 [.int .u32 (y : Int)] (by simp) (set_pr_now_length x.epochs y)).trans (by rw [encSt, dec_st_epochs])
@[go_sem] theorem st_epochs_next (x : St) : (encSt x).extract 234 363 = encDt x.epochs.next := (ext_sub (i := 105) (n := 258) (dec_st_epochs x) (off_st_epochs x) (len_encPrL _) 129 258 (by omega)).trans (pr_next x.epochs)
@[go_sem] theorem set_st_epochs_next (x : St) (y : Dt) : spliceL (encSt x) 234 (encDt y).toList = encSt { x with epochs := { x.epochs with next := y } } := (spl_sub (i := 105) (n := 258) (dec_st_epochs x) (off_st_epochs x) (len_encPrL _) 129 (encDt y).toList (by rw [Array.length_toList, size_encDt]; omega) (set_pr_next x.epochs y)).trans (by rw [encSt, dec_st_epochs])
@[go_sem] theorem st_epochs_next_ledger (x : St) : (encSt x).extract 234 266 = encH x.epochs.next.ledger := (ext_sub (i := 105) (n := 258) (dec_st_epochs x) (off_st_epochs x) (len_encPrL _) 129 161 (by omega)).trans (pr_next_ledger x.epochs)
@[go_sem] theorem set_st_epochs_next_ledger (x : St) (y : H32) : spliceL (encSt x) 234 (encH y).toList = encSt { x with epochs := { x.epochs with next := { x.epochs.next with ledger := y } } } := (spl_sub (i := 105) (n := 258) (dec_st_epochs x) (off_st_epochs x) (len_encPrL _) 129 (encH y).toList (by rw [Array.length_toList, size_encH]; omega) (set_pr_next_ledger x.epochs y)).trans (by rw [encSt, dec_st_epochs])
@[go_sem] theorem st_epochs_next_seed (x : St) : (encSt x).extract 266 298 = encH x.epochs.next.seed := (ext_sub (i := 105) (n := 258) (dec_st_epochs x) (off_st_epochs x) (len_encPrL _) 161 193 (by omega)).trans (pr_next_seed x.epochs)
@[go_sem] theorem set_st_epochs_next_seed (x : St) (y : H32) : spliceL (encSt x) 266 (encH y).toList = encSt { x with epochs := { x.epochs with next := { x.epochs.next with seed := y } } } := (spl_sub (i := 105) (n := 258) (dec_st_epochs x) (off_st_epochs x) (len_encPrL _) 161 (encH y).toList (by rw [Array.length_toList, size_encH]; omega) (set_pr_next_seed x.epochs y)).trans (by rw [encSt, dec_st_epochs])
@[go_sem] theorem st_epochs_next_start (x : St) : (encSt x).extract 298 330 = encH x.epochs.next.start := (ext_sub (i := 105) (n := 258) (dec_st_epochs x) (off_st_epochs x) (len_encPrL _) 193 225 (by omega)).trans (pr_next_start x.epochs)
@[go_sem] theorem set_st_epochs_next_start (x : St) (y : H32) : spliceL (encSt x) 298 (encH y).toList = encSt { x with epochs := { x.epochs with next := { x.epochs.next with start := y } } } := (spl_sub (i := 105) (n := 258) (dec_st_epochs x) (off_st_epochs x) (len_encPrL _) 193 (encH y).toList (by rw [Array.length_toList, size_encH]; omega) (set_pr_next_start x.epochs y)).trans (by rw [encSt, dec_st_epochs])
@[go_sem] theorem st_epochs_next_lock (x : St) : (encSt x).extract 330 362 = encH x.epochs.next.lock := (ext_sub (i := 105) (n := 258) (dec_st_epochs x) (off_st_epochs x) (len_encPrL _) 225 257 (by omega)).trans (pr_next_lock x.epochs)
@[go_sem] theorem set_st_epochs_next_lock (x : St) (y : H32) : spliceL (encSt x) 330 (encH y).toList = encSt { x with epochs := { x.epochs with next := { x.epochs.next with lock := y } } } := (spl_sub (i := 105) (n := 258) (dec_st_epochs x) (off_st_epochs x) (len_encPrL _) 225 (encH y).toList (by rw [Array.length_toList, size_encH]; omega) (set_pr_next_lock x.epochs y)).trans (by rw [encSt, dec_st_epochs])
@[go_sem] theorem st_epochs_next_length (x : St) : (encSt x)[362]? = some (.int .u32 (x.epochs.next.length : Int)) := (get_sub (i := 105) (n := 258) (dec_st_epochs x) (off_st_epochs x) (len_encPrL _) 257 (by omega)).trans (pr_next_length x.epochs)
@[go_sem] theorem g_st_epochs_next_length (x : St) (h : 362 < (encSt x).size) : (encSt x)[362]'h = .int .u32 (x.epochs.next.length : Int) := Option.some.inj ((Array.getElem?_eq_getElem h).symm.trans (st_epochs_next_length x))
@[go_sem] theorem set_st_epochs_next_length (x : St) (y : Nat) : (encSt x).setIfInBounds 362 (.int .u32 (y : Int)) = encSt { x with epochs := { x.epochs with next := { x.epochs.next with length := y } } } := (spl_sub (i := 105) (n := 258) (dec_st_epochs x) (off_st_epochs x) (len_encPrL _) 257 [.int .u32 (y : Int)] (by simp) (set_pr_next_length x.epochs y)).trans (by rw [encSt, dec_st_epochs])
@[go_sem] theorem all_st (x y : St) : spliceL (encSt x) 0 (encSt y).toList = encSt y := by rw [spliceL_all _ _ (by show (encStL y).length = (encSt x).size; rw [len_encStL, size_encSt])]
@[go_sem] theorem whole_st (x : St) : (encSt x).extract 0 363 = encSt x := by have := size_encSt x; rw [← this]; exact Array.extract_size
def encBkL (x : Bk) : List Value := [Value.int .u32 (x.slot : Int)] ++ (encHL x.ledger ++ (encHL x.draw))
def encBk (x : Bk) : Array Value := (encBkL x).toArray
theorem len_encBkL (x : Bk) : (encBkL x).length = 65 := by simp [encBkL, len_encRgL, len_encWnL, len_encDtL, len_encPrL, len_encStL, len_encHL, len_encCL]
@[simp, go_sem] theorem size_encBk (x : Bk) : (encBk x).size = 65 := len_encBkL x
theorem one_encBkL (x : Bk) : ∀ v ∈ encBkL x, v.oneCell' = true := by
  intro v hv
  simp only [encBkL, List.mem_append, List.mem_singleton] at hv
  rcases hv with h | h | h <;> first | exact one_encHL _ v h | exact one_encCL _ v h | exact one_encRgL _ v h | exact one_encWnL _ v h | exact one_encDtL _ v h | exact one_encPrL _ v h | exact one_encStL _ v h | (subst h; rfl)
theorem one_encBk (x : Bk) : ∀ v ∈ (encBk x).toList, v.oneCell' = true := one_encBkL x
theorem dec_bk_slot (x : Bk) : encBkL x = (([] : List Value)) ++ (([Value.int .u32 (x.slot : Int)]) ++ (encHL x.ledger ++ (encHL x.draw))) := by simp only [encBkL, List.append_assoc, List.nil_append, List.append_nil]
theorem off_bk_slot (x : Bk) : (([] : List Value)).length = 0 := by simp [len_encRgL, len_encWnL, len_encDtL, len_encPrL, len_encStL, len_encHL, len_encCL]
@[go_sem] theorem bk_slot (x : Bk) : (encBk x)[0]? = some (.int .u32 (x.slot : Int)) := cell_of (i := 0) (dec_bk_slot x) (off_bk_slot x)
@[go_sem] theorem g_bk_slot (x : Bk) (h : 0 < (encBk x).size) : (encBk x)[0]'h = .int .u32 (x.slot : Int) := Option.some.inj ((Array.getElem?_eq_getElem h).symm.trans (bk_slot x))
@[go_sem] theorem set_bk_slot (x : Bk) (y : Nat) : (encBk x).setIfInBounds 0 (.int .u32 (y : Int)) = encBk { x with slot := y } := (set_of (i := 0) (dec_bk_slot x) (off_bk_slot x)).trans (by rw [encBk, dec_bk_slot])
theorem dec_bk_ledger (x : Bk) : encBkL x = ([Value.int .u32 (x.slot : Int)]) ++ ((encHL x.ledger) ++ (encHL x.draw)) := by simp only [encBkL, List.append_assoc, List.nil_append, List.append_nil]
theorem off_bk_ledger (x : Bk) : ([Value.int .u32 (x.slot : Int)]).length = 1 := by simp [len_encRgL, len_encWnL, len_encDtL, len_encPrL, len_encStL, len_encHL, len_encCL]
@[go_sem] theorem bk_ledger (x : Bk) : (encBk x).extract 1 33 = encH x.ledger := part_of (i := 1) (n := 32) (dec_bk_ledger x) (off_bk_ledger x) (len_encHL _)
@[go_sem] theorem set_bk_ledger (x : Bk) (y : H32) : spliceL (encBk x) 1 (encH y).toList = encBk { x with ledger := y } := (splice_of (i := 1) (mid' := encHL y) (dec_bk_ledger x) (off_bk_ledger x) (by rw [len_encHL, len_encHL])).trans (by rw [encBk, dec_bk_ledger])
theorem dec_bk_draw (x : Bk) : encBkL x = ([Value.int .u32 (x.slot : Int)] ++ (encHL x.ledger)) ++ ((encHL x.draw) ++ (([] : List Value))) := by simp only [encBkL, List.append_assoc, List.nil_append, List.append_nil]
theorem off_bk_draw (x : Bk) : ([Value.int .u32 (x.slot : Int)] ++ (encHL x.ledger)).length = 33 := by simp [len_encRgL, len_encWnL, len_encDtL, len_encPrL, len_encStL, len_encHL, len_encCL]
@[go_sem] theorem bk_draw (x : Bk) : (encBk x).extract 33 65 = encH x.draw := part_of (i := 33) (n := 32) (dec_bk_draw x) (off_bk_draw x) (len_encHL _)
@[go_sem] theorem set_bk_draw (x : Bk) (y : H32) : spliceL (encBk x) 33 (encH y).toList = encBk { x with draw := y } := (splice_of (i := 33) (mid' := encHL y) (dec_bk_draw x) (off_bk_draw x) (by rw [len_encHL, len_encHL])).trans (by rw [encBk, dec_bk_draw])
@[go_sem] theorem all_bk (x y : Bk) : spliceL (encBk x) 0 (encBk y).toList = encBk y := by rw [spliceL_all _ _ (by show (encBkL y).length = (encBk x).size; rw [len_encBkL, size_encBk])]
@[go_sem] theorem whole_bk (x : Bk) : (encBk x).extract 0 65 = encBk x := by have := size_encBk x; rw [← this]; exact Array.extract_size
def encKyL (x : Ky) : List Value := [Value.int .u32 (x.length : Int)] ++ (encHL x.draw ++ (encHL x.hash))
def encKy (x : Ky) : Array Value := (encKyL x).toArray
theorem len_encKyL (x : Ky) : (encKyL x).length = 65 := by simp [encKyL, len_encRgL, len_encWnL, len_encDtL, len_encPrL, len_encStL, len_encBkL, len_encHL, len_encCL]
@[simp, go_sem] theorem size_encKy (x : Ky) : (encKy x).size = 65 := len_encKyL x
theorem one_encKyL (x : Ky) : ∀ v ∈ encKyL x, v.oneCell' = true := by
  intro v hv
  simp only [encKyL, List.mem_append, List.mem_singleton] at hv
  rcases hv with h | h | h <;> first | exact one_encHL _ v h | exact one_encCL _ v h | exact one_encRgL _ v h | exact one_encWnL _ v h | exact one_encDtL _ v h | exact one_encPrL _ v h | exact one_encStL _ v h | exact one_encBkL _ v h | (subst h; rfl)
theorem one_encKy (x : Ky) : ∀ v ∈ (encKy x).toList, v.oneCell' = true := one_encKyL x
theorem dec_ky_length (x : Ky) : encKyL x = (([] : List Value)) ++ (([Value.int .u32 (x.length : Int)]) ++ (encHL x.draw ++ (encHL x.hash))) := by simp only [encKyL, List.append_assoc, List.nil_append, List.append_nil]
theorem off_ky_length (x : Ky) : (([] : List Value)).length = 0 := by simp [len_encRgL, len_encWnL, len_encDtL, len_encPrL, len_encStL, len_encBkL, len_encHL, len_encCL]
@[go_sem] theorem ky_length (x : Ky) : (encKy x)[0]? = some (.int .u32 (x.length : Int)) := cell_of (i := 0) (dec_ky_length x) (off_ky_length x)
@[go_sem] theorem g_ky_length (x : Ky) (h : 0 < (encKy x).size) : (encKy x)[0]'h = .int .u32 (x.length : Int) := Option.some.inj ((Array.getElem?_eq_getElem h).symm.trans (ky_length x))
@[go_sem] theorem set_ky_length (x : Ky) (y : Nat) : (encKy x).setIfInBounds 0 (.int .u32 (y : Int)) = encKy { x with length := y } := (set_of (i := 0) (dec_ky_length x) (off_ky_length x)).trans (by rw [encKy, dec_ky_length])
theorem dec_ky_draw (x : Ky) : encKyL x = ([Value.int .u32 (x.length : Int)]) ++ ((encHL x.draw) ++ (encHL x.hash)) := by simp only [encKyL, List.append_assoc, List.nil_append, List.append_nil]
theorem off_ky_draw (x : Ky) : ([Value.int .u32 (x.length : Int)]).length = 1 := by simp [len_encRgL, len_encWnL, len_encDtL, len_encPrL, len_encStL, len_encBkL, len_encHL, len_encCL]
@[go_sem] theorem ky_draw (x : Ky) : (encKy x).extract 1 33 = encH x.draw := part_of (i := 1) (n := 32) (dec_ky_draw x) (off_ky_draw x) (len_encHL _)
@[go_sem] theorem set_ky_draw (x : Ky) (y : H32) : spliceL (encKy x) 1 (encH y).toList = encKy { x with draw := y } := (splice_of (i := 1) (mid' := encHL y) (dec_ky_draw x) (off_ky_draw x) (by rw [len_encHL, len_encHL])).trans (by rw [encKy, dec_ky_draw])
theorem dec_ky_hash (x : Ky) : encKyL x = ([Value.int .u32 (x.length : Int)] ++ (encHL x.draw)) ++ ((encHL x.hash) ++ (([] : List Value))) := by simp only [encKyL, List.append_assoc, List.nil_append, List.append_nil]
theorem off_ky_hash (x : Ky) : ([Value.int .u32 (x.length : Int)] ++ (encHL x.draw)).length = 33 := by simp [len_encRgL, len_encWnL, len_encDtL, len_encPrL, len_encStL, len_encBkL, len_encHL, len_encCL]
@[go_sem] theorem ky_hash (x : Ky) : (encKy x).extract 33 65 = encH x.hash := part_of (i := 33) (n := 32) (dec_ky_hash x) (off_ky_hash x) (len_encHL _)
@[go_sem] theorem set_ky_hash (x : Ky) (y : H32) : spliceL (encKy x) 33 (encH y).toList = encKy { x with hash := y } := (splice_of (i := 33) (mid' := encHL y) (dec_ky_hash x) (off_ky_hash x) (by rw [len_encHL, len_encHL])).trans (by rw [encKy, dec_ky_hash])
@[go_sem] theorem all_ky (x y : Ky) : spliceL (encKy x) 0 (encKy y).toList = encKy y := by rw [spliceL_all _ _ (by show (encKyL y).length = (encKy x).size; rw [len_encKyL, size_encKy])]
@[go_sem] theorem whole_ky (x : Ky) : (encKy x).extract 0 65 = encKy x := by have := size_encKy x; rw [← this]; exact Array.extract_size
def encEbL (x : Eb) : List Value := [Value.int .u32 (x.frm : Int)] ++ ([Value.int .u32 (x.to : Int)] ++ (encHL x.prev ++ (encHL x.ledger ++ (encHL x.draw))))
def encEb (x : Eb) : Array Value := (encEbL x).toArray
theorem len_encEbL (x : Eb) : (encEbL x).length = 98 := by simp [encEbL, len_encRgL, len_encWnL, len_encDtL, len_encPrL, len_encStL, len_encBkL, len_encKyL, len_encHL, len_encCL]
@[simp, go_sem] theorem size_encEb (x : Eb) : (encEb x).size = 98 := len_encEbL x
theorem one_encEbL (x : Eb) : ∀ v ∈ encEbL x, v.oneCell' = true := by
  intro v hv
  simp only [encEbL, List.mem_append, List.mem_singleton] at hv
  rcases hv with h | h | h | h | h <;> first | exact one_encHL _ v h | exact one_encCL _ v h | exact one_encRgL _ v h | exact one_encWnL _ v h | exact one_encDtL _ v h | exact one_encPrL _ v h | exact one_encStL _ v h | exact one_encBkL _ v h | exact one_encKyL _ v h | (subst h; rfl)
theorem one_encEb (x : Eb) : ∀ v ∈ (encEb x).toList, v.oneCell' = true := one_encEbL x
theorem dec_eb_frm (x : Eb) : encEbL x = (([] : List Value)) ++ (([Value.int .u32 (x.frm : Int)]) ++ ([Value.int .u32 (x.to : Int)] ++ (encHL x.prev ++ (encHL x.ledger ++ (encHL x.draw))))) := by simp only [encEbL, List.append_assoc, List.nil_append, List.append_nil]
theorem off_eb_frm (x : Eb) : (([] : List Value)).length = 0 := by simp [len_encRgL, len_encWnL, len_encDtL, len_encPrL, len_encStL, len_encBkL, len_encKyL, len_encHL, len_encCL]
@[go_sem] theorem eb_frm (x : Eb) : (encEb x)[0]? = some (.int .u32 (x.frm : Int)) := cell_of (i := 0) (dec_eb_frm x) (off_eb_frm x)
@[go_sem] theorem g_eb_frm (x : Eb) (h : 0 < (encEb x).size) : (encEb x)[0]'h = .int .u32 (x.frm : Int) := Option.some.inj ((Array.getElem?_eq_getElem h).symm.trans (eb_frm x))
@[go_sem] theorem set_eb_frm (x : Eb) (y : Nat) : (encEb x).setIfInBounds 0 (.int .u32 (y : Int)) = encEb { x with frm := y } := (set_of (i := 0) (dec_eb_frm x) (off_eb_frm x)).trans (by rw [encEb, dec_eb_frm])
theorem dec_eb_to (x : Eb) : encEbL x = ([Value.int .u32 (x.frm : Int)]) ++ (([Value.int .u32 (x.to : Int)]) ++ (encHL x.prev ++ (encHL x.ledger ++ (encHL x.draw)))) := by simp only [encEbL, List.append_assoc, List.nil_append, List.append_nil]
theorem off_eb_to (x : Eb) : ([Value.int .u32 (x.frm : Int)]).length = 1 := by simp [len_encRgL, len_encWnL, len_encDtL, len_encPrL, len_encStL, len_encBkL, len_encKyL, len_encHL, len_encCL]
@[go_sem] theorem eb_to (x : Eb) : (encEb x)[1]? = some (.int .u32 (x.to : Int)) := cell_of (i := 1) (dec_eb_to x) (off_eb_to x)
@[go_sem] theorem g_eb_to (x : Eb) (h : 1 < (encEb x).size) : (encEb x)[1]'h = .int .u32 (x.to : Int) := Option.some.inj ((Array.getElem?_eq_getElem h).symm.trans (eb_to x))
@[go_sem] theorem set_eb_to (x : Eb) (y : Nat) : (encEb x).setIfInBounds 1 (.int .u32 (y : Int)) = encEb { x with to := y } := (set_of (i := 1) (dec_eb_to x) (off_eb_to x)).trans (by rw [encEb, dec_eb_to])
theorem dec_eb_prev (x : Eb) : encEbL x = ([Value.int .u32 (x.frm : Int)] ++ ([Value.int .u32 (x.to : Int)])) ++ ((encHL x.prev) ++ (encHL x.ledger ++ (encHL x.draw))) := by simp only [encEbL, List.append_assoc, List.nil_append, List.append_nil]
theorem off_eb_prev (x : Eb) : ([Value.int .u32 (x.frm : Int)] ++ ([Value.int .u32 (x.to : Int)])).length = 2 := by simp [len_encRgL, len_encWnL, len_encDtL, len_encPrL, len_encStL, len_encBkL, len_encKyL, len_encHL, len_encCL]
@[go_sem] theorem eb_prev (x : Eb) : (encEb x).extract 2 34 = encH x.prev := part_of (i := 2) (n := 32) (dec_eb_prev x) (off_eb_prev x) (len_encHL _)
@[go_sem] theorem set_eb_prev (x : Eb) (y : H32) : spliceL (encEb x) 2 (encH y).toList = encEb { x with prev := y } := (splice_of (i := 2) (mid' := encHL y) (dec_eb_prev x) (off_eb_prev x) (by rw [len_encHL, len_encHL])).trans (by rw [encEb, dec_eb_prev])
theorem dec_eb_ledger (x : Eb) : encEbL x = ([Value.int .u32 (x.frm : Int)] ++ ([Value.int .u32 (x.to : Int)] ++ (encHL x.prev))) ++ ((encHL x.ledger) ++ (encHL x.draw)) := by simp only [encEbL, List.append_assoc, List.nil_append, List.append_nil]
theorem off_eb_ledger (x : Eb) : ([Value.int .u32 (x.frm : Int)] ++ ([Value.int .u32 (x.to : Int)] ++ (encHL x.prev))).length = 34 := by simp [len_encRgL, len_encWnL, len_encDtL, len_encPrL, len_encStL, len_encBkL, len_encKyL, len_encHL, len_encCL]
@[go_sem] theorem eb_ledger (x : Eb) : (encEb x).extract 34 66 = encH x.ledger := part_of (i := 34) (n := 32) (dec_eb_ledger x) (off_eb_ledger x) (len_encHL _)
@[go_sem] theorem set_eb_ledger (x : Eb) (y : H32) : spliceL (encEb x) 34 (encH y).toList = encEb { x with ledger := y } := (splice_of (i := 34) (mid' := encHL y) (dec_eb_ledger x) (off_eb_ledger x) (by rw [len_encHL, len_encHL])).trans (by rw [encEb, dec_eb_ledger])
theorem dec_eb_draw (x : Eb) : encEbL x = ([Value.int .u32 (x.frm : Int)] ++ ([Value.int .u32 (x.to : Int)] ++ (encHL x.prev ++ (encHL x.ledger)))) ++ ((encHL x.draw) ++ (([] : List Value))) := by simp only [encEbL, List.append_assoc, List.nil_append, List.append_nil]
theorem off_eb_draw (x : Eb) : ([Value.int .u32 (x.frm : Int)] ++ ([Value.int .u32 (x.to : Int)] ++ (encHL x.prev ++ (encHL x.ledger)))).length = 66 := by simp [len_encRgL, len_encWnL, len_encDtL, len_encPrL, len_encStL, len_encBkL, len_encKyL, len_encHL, len_encCL]
@[go_sem] theorem eb_draw (x : Eb) : (encEb x).extract 66 98 = encH x.draw := part_of (i := 66) (n := 32) (dec_eb_draw x) (off_eb_draw x) (len_encHL _)
@[go_sem] theorem set_eb_draw (x : Eb) (y : H32) : spliceL (encEb x) 66 (encH y).toList = encEb { x with draw := y } := (splice_of (i := 66) (mid' := encHL y) (dec_eb_draw x) (off_eb_draw x) (by rw [len_encHL, len_encHL])).trans (by rw [encEb, dec_eb_draw])
@[go_sem] theorem all_eb (x y : Eb) : spliceL (encEb x) 0 (encEb y).toList = encEb y := by rw [spliceL_all _ _ (by show (encEbL y).length = (encEb x).size; rw [len_encEbL, size_encEb])]
@[go_sem] theorem whole_eb (x : Eb) : (encEb x).extract 0 98 = encEb x := by have := size_encEb x; rw [← this]; exact Array.extract_size
def encCmL (x : Cm) : List Value := encWnL x.win ++ ([Value.int .u32 (x.slot : Int)])
def encCm (x : Cm) : Array Value := (encCmL x).toArray
theorem len_encCmL (x : Cm) : (encCmL x).length = 7 := by simp [encCmL, len_encRgL, len_encWnL, len_encDtL, len_encPrL, len_encStL, len_encBkL, len_encKyL, len_encEbL, len_encHL, len_encCL]
@[simp, go_sem] theorem size_encCm (x : Cm) : (encCm x).size = 7 := len_encCmL x
theorem one_encCmL (x : Cm) : ∀ v ∈ encCmL x, v.oneCell' = true := by
  intro v hv
  simp only [encCmL, List.mem_append, List.mem_singleton] at hv
  rcases hv with h | h <;> first | exact one_encHL _ v h | exact one_encCL _ v h | exact one_encRgL _ v h | exact one_encWnL _ v h | exact one_encDtL _ v h | exact one_encPrL _ v h | exact one_encStL _ v h | exact one_encBkL _ v h | exact one_encKyL _ v h | exact one_encEbL _ v h | (subst h; rfl)
theorem one_encCm (x : Cm) : ∀ v ∈ (encCm x).toList, v.oneCell' = true := one_encCmL x
theorem dec_cm_win (x : Cm) : encCmL x = (([] : List Value)) ++ ((encWnL x.win) ++ ([Value.int .u32 (x.slot : Int)])) := by simp only [encCmL, List.append_assoc, List.nil_append, List.append_nil]
theorem off_cm_win (x : Cm) : (([] : List Value)).length = 0 := by simp [len_encRgL, len_encWnL, len_encDtL, len_encPrL, len_encStL, len_encBkL, len_encKyL, len_encEbL, len_encHL, len_encCL]
@[go_sem] theorem cm_win (x : Cm) : (encCm x).extract 0 6 = encWn x.win := part_of (i := 0) (n := 6) (dec_cm_win x) (off_cm_win x) (len_encWnL _)
@[go_sem] theorem set_cm_win (x : Cm) (y : Wn) : spliceL (encCm x) 0 (encWn y).toList = encCm { x with win := y } := (splice_of (i := 0) (mid' := encWnL y) (dec_cm_win x) (off_cm_win x) (by rw [len_encWnL, len_encWnL])).trans (by rw [encCm, dec_cm_win])
@[go_sem] theorem cm_win_min (x : Cm) : (encCm x)[0]? = some (.int .u32 (x.win.min : Int)) := (get_sub (i := 0) (n := 6) (dec_cm_win x) (off_cm_win x) (len_encWnL _) 0 (by omega)).trans (wn_min x.win)
@[go_sem] theorem g_cm_win_min (x : Cm) (h : 0 < (encCm x).size) : (encCm x)[0]'h = .int .u32 (x.win.min : Int) := Option.some.inj ((Array.getElem?_eq_getElem h).symm.trans (cm_win_min x))
@[go_sem] theorem set_cm_win_min (x : Cm) (y : Nat) : (encCm x).setIfInBounds 0 (.int .u32 (y : Int)) = encCm { x with win := { x.win with min := y } } := (spl_sub (i := 0) (n := 6) (dec_cm_win x) (off_cm_win x) (len_encWnL _) 0 [.int .u32 (y : Int)] (by simp) (set_wn_min x.win y)).trans (by rw [encCm, dec_cm_win])
@[go_sem] theorem cm_win_ring (x : Cm) : (encCm x).extract 1 6 = encRg x.win.ring := (ext_sub (i := 0) (n := 6) (dec_cm_win x) (off_cm_win x) (len_encWnL _) 1 6 (by omega)).trans (wn_ring x.win)
@[go_sem] theorem set_cm_win_ring (x : Cm) (y : Rg) : spliceL (encCm x) 1 (encRg y).toList = encCm { x with win := { x.win with ring := y } } := (spl_sub (i := 0) (n := 6) (dec_cm_win x) (off_cm_win x) (len_encWnL _) 1 (encRg y).toList (by rw [Array.length_toList, size_encRg]; omega) (set_wn_ring x.win y)).trans (by rw [encCm, dec_cm_win])
@[go_sem] theorem cm_win_ring_last (x : Cm) : (encCm x)[1]? = some (.int .u32 (x.win.ring.last : Int)) := (get_sub (i := 0) (n := 6) (dec_cm_win x) (off_cm_win x) (len_encWnL _) 1 (by omega)).trans (wn_ring_last x.win)
@[go_sem] theorem g_cm_win_ring_last (x : Cm) (h : 1 < (encCm x).size) : (encCm x)[1]'h = .int .u32 (x.win.ring.last : Int) := Option.some.inj ((Array.getElem?_eq_getElem h).symm.trans (cm_win_ring_last x))
@[go_sem] theorem set_cm_win_ring_last (x : Cm) (y : Nat) : (encCm x).setIfInBounds 1 (.int .u32 (y : Int)) = encCm { x with win := { x.win with ring := { x.win.ring with last := y } } } := (spl_sub (i := 0) (n := 6) (dec_cm_win x) (off_cm_win x) (len_encWnL _) 1 [.int .u32 (y : Int)] (by simp) (set_wn_ring_last x.win y)).trans (by rw [encCm, dec_cm_win])
@[go_sem] theorem cm_win_ring_counts (x : Cm) : (encCm x).extract 2 6 = encC x.win.ring.counts := (ext_sub (i := 0) (n := 6) (dec_cm_win x) (off_cm_win x) (len_encWnL _) 2 6 (by omega)).trans (wn_ring_counts x.win)
@[go_sem] theorem set_cm_win_ring_counts (x : Cm) (y : C4) : spliceL (encCm x) 2 (encC y).toList = encCm { x with win := { x.win with ring := { x.win.ring with counts := y } } } := (spl_sub (i := 0) (n := 6) (dec_cm_win x) (off_cm_win x) (len_encWnL _) 2 (encC y).toList (by rw [Array.length_toList, size_encC]; omega) (set_wn_ring_counts x.win y)).trans (by rw [encCm, dec_cm_win])
theorem dec_cm_slot (x : Cm) : encCmL x = (encWnL x.win) ++ (([Value.int .u32 (x.slot : Int)]) ++ (([] : List Value))) := by simp only [encCmL, List.append_assoc, List.nil_append, List.append_nil]
theorem off_cm_slot (x : Cm) : (encWnL x.win).length = 6 := by simp [len_encRgL, len_encWnL, len_encDtL, len_encPrL, len_encStL, len_encBkL, len_encKyL, len_encEbL, len_encHL, len_encCL]
@[go_sem] theorem cm_slot (x : Cm) : (encCm x)[6]? = some (.int .u32 (x.slot : Int)) := cell_of (i := 6) (dec_cm_slot x) (off_cm_slot x)
@[go_sem] theorem g_cm_slot (x : Cm) (h : 6 < (encCm x).size) : (encCm x)[6]'h = .int .u32 (x.slot : Int) := Option.some.inj ((Array.getElem?_eq_getElem h).symm.trans (cm_slot x))
@[go_sem] theorem set_cm_slot (x : Cm) (y : Nat) : (encCm x).setIfInBounds 6 (.int .u32 (y : Int)) = encCm { x with slot := y } := (set_of (i := 6) (dec_cm_slot x) (off_cm_slot x)).trans (by rw [encCm, dec_cm_slot])
@[go_sem] theorem all_cm (x y : Cm) : spliceL (encCm x) 0 (encCm y).toList = encCm y := by rw [spliceL_all _ _ (by show (encCmL y).length = (encCm x).size; rw [len_encCmL, size_encCm])]
@[go_sem] theorem whole_cm (x : Cm) : (encCm x).extract 0 7 = encCm x := by have := size_encCm x; rw [← this]; exact Array.extract_size
def encPtL (x : Pt) : List Value := encStL x.a ++ (encStL x.b)
def encPt (x : Pt) : Array Value := (encPtL x).toArray
theorem len_encPtL (x : Pt) : (encPtL x).length = 726 := by simp [encPtL, len_encRgL, len_encWnL, len_encDtL, len_encPrL, len_encStL, len_encBkL, len_encKyL, len_encEbL, len_encCmL, len_encHL, len_encCL]
@[simp, go_sem] theorem size_encPt (x : Pt) : (encPt x).size = 726 := len_encPtL x
theorem one_encPtL (x : Pt) : ∀ v ∈ encPtL x, v.oneCell' = true := by
  intro v hv
  simp only [encPtL, List.mem_append, List.mem_singleton] at hv
  rcases hv with h | h <;> first | exact one_encHL _ v h | exact one_encCL _ v h | exact one_encRgL _ v h | exact one_encWnL _ v h | exact one_encDtL _ v h | exact one_encPrL _ v h | exact one_encStL _ v h | exact one_encBkL _ v h | exact one_encKyL _ v h | exact one_encEbL _ v h | exact one_encCmL _ v h | (subst h; rfl)
theorem one_encPt (x : Pt) : ∀ v ∈ (encPt x).toList, v.oneCell' = true := one_encPtL x
theorem dec_pt_a (x : Pt) : encPtL x = (([] : List Value)) ++ ((encStL x.a) ++ (encStL x.b)) := by simp only [encPtL, List.append_assoc, List.nil_append, List.append_nil]
theorem off_pt_a (x : Pt) : (([] : List Value)).length = 0 := by simp [len_encRgL, len_encWnL, len_encDtL, len_encPrL, len_encStL, len_encBkL, len_encKyL, len_encEbL, len_encCmL, len_encHL, len_encCL]
@[go_sem] theorem pt_a (x : Pt) : (encPt x).extract 0 363 = encSt x.a := part_of (i := 0) (n := 363) (dec_pt_a x) (off_pt_a x) (len_encStL _)
@[go_sem] theorem set_pt_a (x : Pt) (y : St) : spliceL (encPt x) 0 (encSt y).toList = encPt { x with a := y } := (splice_of (i := 0) (mid' := encStL y) (dec_pt_a x) (off_pt_a x) (by rw [len_encStL, len_encStL])).trans (by rw [encPt, dec_pt_a])
@[go_sem] theorem pt_a_prev (x : Pt) : (encPt x).extract 0 32 = encH x.a.prev := (ext_sub (i := 0) (n := 363) (dec_pt_a x) (off_pt_a x) (len_encStL _) 0 32 (by omega)).trans (st_prev x.a)
@[go_sem] theorem set_pt_a_prev (x : Pt) (y : H32) : spliceL (encPt x) 0 (encH y).toList = encPt { x with a := { x.a with prev := y } } := (spl_sub (i := 0) (n := 363) (dec_pt_a x) (off_pt_a x) (len_encStL _) 0 (encH y).toList (by rw [Array.length_toList, size_encH]; omega) (set_st_prev x.a y)).trans (by rw [encPt, dec_pt_a])
@[go_sem] theorem pt_a_ledger (x : Pt) : (encPt x).extract 32 64 = encH x.a.ledger := (ext_sub (i := 0) (n := 363) (dec_pt_a x) (off_pt_a x) (len_encStL _) 32 64 (by omega)).trans (st_ledger x.a)
@[go_sem] theorem set_pt_a_ledger (x : Pt) (y : H32) : spliceL (encPt x) 32 (encH y).toList = encPt { x with a := { x.a with ledger := y } } := (spl_sub (i := 0) (n := 363) (dec_pt_a x) (off_pt_a x) (len_encStL _) 32 (encH y).toList (by rw [Array.length_toList, size_encH]; omega) (set_st_ledger x.a y)).trans (by rw [encPt, dec_pt_a])
@[go_sem] theorem pt_a_draw (x : Pt) : (encPt x).extract 64 96 = encH x.a.draw := (ext_sub (i := 0) (n := 363) (dec_pt_a x) (off_pt_a x) (len_encStL _) 64 96 (by omega)).trans (st_draw x.a)
@[go_sem] theorem set_pt_a_draw (x : Pt) (y : H32) : spliceL (encPt x) 64 (encH y).toList = encPt { x with a := { x.a with draw := y } } := (spl_sub (i := 0) (n := 363) (dec_pt_a x) (off_pt_a x) (len_encStL _) 64 (encH y).toList (by rw [Array.length_toList, size_encH]; omega) (set_st_draw x.a y)).trans (by rw [encPt, dec_pt_a])
@[go_sem] theorem pt_a_slot (x : Pt) : (encPt x)[96]? = some (.int .u32 (x.a.slot : Int)) := (get_sub (i := 0) (n := 363) (dec_pt_a x) (off_pt_a x) (len_encStL _) 96 (by omega)).trans (st_slot x.a)
@[go_sem] theorem g_pt_a_slot (x : Pt) (h : 96 < (encPt x).size) : (encPt x)[96]'h = .int .u32 (x.a.slot : Int) := Option.some.inj ((Array.getElem?_eq_getElem h).symm.trans (pt_a_slot x))
@[go_sem] theorem set_pt_a_slot (x : Pt) (y : Nat) : (encPt x).setIfInBounds 96 (.int .u32 (y : Int)) = encPt { x with a := { x.a with slot := y } } := (spl_sub (i := 0) (n := 363) (dec_pt_a x) (off_pt_a x) (len_encStL _) 96 [.int .u32 (y : Int)] (by simp) (set_st_slot x.a y)).trans (by rw [encPt, dec_pt_a])
@[go_sem] theorem pt_a_length (x : Pt) : (encPt x)[97]? = some (.int .u32 (x.a.length : Int)) := (get_sub (i := 0) (n := 363) (dec_pt_a x) (off_pt_a x) (len_encStL _) 97 (by omega)).trans (st_length x.a)
@[go_sem] theorem g_pt_a_length (x : Pt) (h : 97 < (encPt x).size) : (encPt x)[97]'h = .int .u32 (x.a.length : Int) := Option.some.inj ((Array.getElem?_eq_getElem h).symm.trans (pt_a_length x))
@[go_sem] theorem set_pt_a_length (x : Pt) (y : Nat) : (encPt x).setIfInBounds 97 (.int .u32 (y : Int)) = encPt { x with a := { x.a with length := y } } := (spl_sub (i := 0) (n := 363) (dec_pt_a x) (off_pt_a x) (len_encStL _) 97 [.int .u32 (y : Int)] (by simp) (set_st_length x.a y)).trans (by rw [encPt, dec_pt_a])
@[go_sem] theorem pt_a_count (x : Pt) : (encPt x)[98]? = some (.int .u32 (x.a.count : Int)) := (get_sub (i := 0) (n := 363) (dec_pt_a x) (off_pt_a x) (len_encStL _) 98 (by omega)).trans (st_count x.a)
@[go_sem] theorem g_pt_a_count (x : Pt) (h : 98 < (encPt x).size) : (encPt x)[98]'h = .int .u32 (x.a.count : Int) := Option.some.inj ((Array.getElem?_eq_getElem h).symm.trans (pt_a_count x))
@[go_sem] theorem set_pt_a_count (x : Pt) (y : Nat) : (encPt x).setIfInBounds 98 (.int .u32 (y : Int)) = encPt { x with a := { x.a with count := y } } := (spl_sub (i := 0) (n := 363) (dec_pt_a x) (off_pt_a x) (len_encStL _) 98 [.int .u32 (y : Int)] (by simp) (set_st_count x.a y)).trans (by rw [encPt, dec_pt_a])
@[go_sem] theorem pt_a_win (x : Pt) : (encPt x).extract 99 105 = encWn x.a.win := (ext_sub (i := 0) (n := 363) (dec_pt_a x) (off_pt_a x) (len_encStL _) 99 105 (by omega)).trans (st_win x.a)
@[go_sem] theorem set_pt_a_win (x : Pt) (y : Wn) : spliceL (encPt x) 99 (encWn y).toList = encPt { x with a := { x.a with win := y } } := (spl_sub (i := 0) (n := 363) (dec_pt_a x) (off_pt_a x) (len_encStL _) 99 (encWn y).toList (by rw [Array.length_toList, size_encWn]; omega) (set_st_win x.a y)).trans (by rw [encPt, dec_pt_a])
@[go_sem] theorem pt_a_win_min (x : Pt) : (encPt x)[99]? = some (.int .u32 (x.a.win.min : Int)) := (get_sub (i := 0) (n := 363) (dec_pt_a x) (off_pt_a x) (len_encStL _) 99 (by omega)).trans (st_win_min x.a)
@[go_sem] theorem g_pt_a_win_min (x : Pt) (h : 99 < (encPt x).size) : (encPt x)[99]'h = .int .u32 (x.a.win.min : Int) := Option.some.inj ((Array.getElem?_eq_getElem h).symm.trans (pt_a_win_min x))
@[go_sem] theorem set_pt_a_win_min (x : Pt) (y : Nat) : (encPt x).setIfInBounds 99 (.int .u32 (y : Int)) = encPt { x with a := { x.a with win := { x.a.win with min := y } } } := (spl_sub (i := 0) (n := 363) (dec_pt_a x) (off_pt_a x) (len_encStL _) 99 [.int .u32 (y : Int)] (by simp) (set_st_win_min x.a y)).trans (by rw [encPt, dec_pt_a])
@[go_sem] theorem pt_a_win_ring (x : Pt) : (encPt x).extract 100 105 = encRg x.a.win.ring := (ext_sub (i := 0) (n := 363) (dec_pt_a x) (off_pt_a x) (len_encStL _) 100 105 (by omega)).trans (st_win_ring x.a)
@[go_sem] theorem set_pt_a_win_ring (x : Pt) (y : Rg) : spliceL (encPt x) 100 (encRg y).toList = encPt { x with a := { x.a with win := { x.a.win with ring := y } } } := (spl_sub (i := 0) (n := 363) (dec_pt_a x) (off_pt_a x) (len_encStL _) 100 (encRg y).toList (by rw [Array.length_toList, size_encRg]; omega) (set_st_win_ring x.a y)).trans (by rw [encPt, dec_pt_a])
@[go_sem] theorem pt_a_win_ring_last (x : Pt) : (encPt x)[100]? = some (.int .u32 (x.a.win.ring.last : Int)) := (get_sub (i := 0) (n := 363) (dec_pt_a x) (off_pt_a x) (len_encStL _) 100 (by omega)).trans (st_win_ring_last x.a)
@[go_sem] theorem g_pt_a_win_ring_last (x : Pt) (h : 100 < (encPt x).size) : (encPt x)[100]'h = .int .u32 (x.a.win.ring.last : Int) := Option.some.inj ((Array.getElem?_eq_getElem h).symm.trans (pt_a_win_ring_last x))
@[go_sem] theorem set_pt_a_win_ring_last (x : Pt) (y : Nat) : (encPt x).setIfInBounds 100 (.int .u32 (y : Int)) = encPt { x with a := { x.a with win := { x.a.win with ring := { x.a.win.ring with last := y } } } } := (spl_sub (i := 0) (n := 363) (dec_pt_a x) (off_pt_a x) (len_encStL _) 100 [.int .u32 (y : Int)] (by simp) (set_st_win_ring_last x.a y)).trans (by rw [encPt, dec_pt_a])
@[go_sem] theorem pt_a_win_ring_counts (x : Pt) : (encPt x).extract 101 105 = encC x.a.win.ring.counts := (ext_sub (i := 0) (n := 363) (dec_pt_a x) (off_pt_a x) (len_encStL _) 101 105 (by omega)).trans (st_win_ring_counts x.a)
@[go_sem] theorem set_pt_a_win_ring_counts (x : Pt) (y : C4) : spliceL (encPt x) 101 (encC y).toList = encPt { x with a := { x.a with win := { x.a.win with ring := { x.a.win.ring with counts := y } } } } := (spl_sub (i := 0) (n := 363) (dec_pt_a x) (off_pt_a x) (len_encStL _) 101 (encC y).toList (by rw [Array.length_toList, size_encC]; omega) (set_st_win_ring_counts x.a y)).trans (by rw [encPt, dec_pt_a])
@[go_sem] theorem pt_a_epochs (x : Pt) : (encPt x).extract 105 363 = encPr x.a.epochs := (ext_sub (i := 0) (n := 363) (dec_pt_a x) (off_pt_a x) (len_encStL _) 105 363 (by omega)).trans (st_epochs x.a)
@[go_sem] theorem set_pt_a_epochs (x : Pt) (y : Pr) : spliceL (encPt x) 105 (encPr y).toList = encPt { x with a := { x.a with epochs := y } } := (spl_sub (i := 0) (n := 363) (dec_pt_a x) (off_pt_a x) (len_encStL _) 105 (encPr y).toList (by rw [Array.length_toList, size_encPr]; omega) (set_st_epochs x.a y)).trans (by rw [encPt, dec_pt_a])
@[go_sem] theorem pt_a_epochs_now (x : Pt) : (encPt x).extract 105 234 = encDt x.a.epochs.now := (ext_sub (i := 0) (n := 363) (dec_pt_a x) (off_pt_a x) (len_encStL _) 105 234 (by omega)).trans (st_epochs_now x.a)
@[go_sem] theorem set_pt_a_epochs_now (x : Pt) (y : Dt) : spliceL (encPt x) 105 (encDt y).toList = encPt { x with a := { x.a with epochs := { x.a.epochs with now := y } } } := (spl_sub (i := 0) (n := 363) (dec_pt_a x) (off_pt_a x) (len_encStL _) 105 (encDt y).toList (by rw [Array.length_toList, size_encDt]; omega) (set_st_epochs_now x.a y)).trans (by rw [encPt, dec_pt_a])
@[go_sem] theorem pt_a_epochs_now_ledger (x : Pt) : (encPt x).extract 105 137 = encH x.a.epochs.now.ledger := (ext_sub (i := 0) (n := 363) (dec_pt_a x) (off_pt_a x) (len_encStL _) 105 137 (by omega)).trans (st_epochs_now_ledger x.a)
@[go_sem] theorem set_pt_a_epochs_now_ledger (x : Pt) (y : H32) : spliceL (encPt x) 105 (encH y).toList = encPt { x with a := { x.a with epochs := { x.a.epochs with now := { x.a.epochs.now with ledger := y } } } } := (spl_sub (i := 0) (n := 363) (dec_pt_a x) (off_pt_a x) (len_encStL _) 105 (encH y).toList (by rw [Array.length_toList, size_encH]; omega) (set_st_epochs_now_ledger x.a y)).trans (by rw [encPt, dec_pt_a])
@[go_sem] theorem pt_a_epochs_now_seed (x : Pt) : (encPt x).extract 137 169 = encH x.a.epochs.now.seed := (ext_sub (i := 0) (n := 363) (dec_pt_a x) (off_pt_a x) (len_encStL _) 137 169 (by omega)).trans (st_epochs_now_seed x.a)
@[go_sem] theorem set_pt_a_epochs_now_seed (x : Pt) (y : H32) : spliceL (encPt x) 137 (encH y).toList = encPt { x with a := { x.a with epochs := { x.a.epochs with now := { x.a.epochs.now with seed := y } } } } := (spl_sub (i := 0) (n := 363) (dec_pt_a x) (off_pt_a x) (len_encStL _) 137 (encH y).toList (by rw [Array.length_toList, size_encH]; omega) (set_st_epochs_now_seed x.a y)).trans (by rw [encPt, dec_pt_a])
@[go_sem] theorem pt_a_epochs_now_start (x : Pt) : (encPt x).extract 169 201 = encH x.a.epochs.now.start := (ext_sub (i := 0) (n := 363) (dec_pt_a x) (off_pt_a x) (len_encStL _) 169 201 (by omega)).trans (st_epochs_now_start x.a)
@[go_sem] theorem set_pt_a_epochs_now_start (x : Pt) (y : H32) : spliceL (encPt x) 169 (encH y).toList = encPt { x with a := { x.a with epochs := { x.a.epochs with now := { x.a.epochs.now with start := y } } } } := (spl_sub (i := 0) (n := 363) (dec_pt_a x) (off_pt_a x) (len_encStL _) 169 (encH y).toList (by rw [Array.length_toList, size_encH]; omega) (set_st_epochs_now_start x.a y)).trans (by rw [encPt, dec_pt_a])
@[go_sem] theorem pt_a_epochs_now_lock (x : Pt) : (encPt x).extract 201 233 = encH x.a.epochs.now.lock := (ext_sub (i := 0) (n := 363) (dec_pt_a x) (off_pt_a x) (len_encStL _) 201 233 (by omega)).trans (st_epochs_now_lock x.a)
@[go_sem] theorem set_pt_a_epochs_now_lock (x : Pt) (y : H32) : spliceL (encPt x) 201 (encH y).toList = encPt { x with a := { x.a with epochs := { x.a.epochs with now := { x.a.epochs.now with lock := y } } } } := (spl_sub (i := 0) (n := 363) (dec_pt_a x) (off_pt_a x) (len_encStL _) 201 (encH y).toList (by rw [Array.length_toList, size_encH]; omega) (set_st_epochs_now_lock x.a y)).trans (by rw [encPt, dec_pt_a])
@[go_sem] theorem pt_a_epochs_now_length (x : Pt) : (encPt x)[233]? = some (.int .u32 (x.a.epochs.now.length : Int)) := (get_sub (i := 0) (n := 363) (dec_pt_a x) (off_pt_a x) (len_encStL _) 233 (by omega)).trans (st_epochs_now_length x.a)
@[go_sem] theorem g_pt_a_epochs_now_length (x : Pt) (h : 233 < (encPt x).size) : (encPt x)[233]'h = .int .u32 (x.a.epochs.now.length : Int) := Option.some.inj ((Array.getElem?_eq_getElem h).symm.trans (pt_a_epochs_now_length x))
@[go_sem] theorem set_pt_a_epochs_now_length (x : Pt) (y : Nat) : (encPt x).setIfInBounds 233 (.int .u32 (y : Int)) = encPt { x with a := { x.a with epochs := { x.a.epochs with now := { x.a.epochs.now with length := y } } } } := (spl_sub (i := 0) (n := 363) (dec_pt_a x) (off_pt_a x) (len_encStL _) 233 [.int .u32 (y : Int)] (by simp) (set_st_epochs_now_length x.a y)).trans (by rw [encPt, dec_pt_a])
@[go_sem] theorem pt_a_epochs_next (x : Pt) : (encPt x).extract 234 363 = encDt x.a.epochs.next := (ext_sub (i := 0) (n := 363) (dec_pt_a x) (off_pt_a x) (len_encStL _) 234 363 (by omega)).trans (st_epochs_next x.a)
@[go_sem] theorem set_pt_a_epochs_next (x : Pt) (y : Dt) : spliceL (encPt x) 234 (encDt y).toList = encPt { x with a := { x.a with epochs := { x.a.epochs with next := y } } } := (spl_sub (i := 0) (n := 363) (dec_pt_a x) (off_pt_a x) (len_encStL _) 234 (encDt y).toList (by rw [Array.length_toList, size_encDt]; omega) (set_st_epochs_next x.a y)).trans (by rw [encPt, dec_pt_a])
@[go_sem] theorem pt_a_epochs_next_ledger (x : Pt) : (encPt x).extract 234 266 = encH x.a.epochs.next.ledger := (ext_sub (i := 0) (n := 363) (dec_pt_a x) (off_pt_a x) (len_encStL _) 234 266 (by omega)).trans (st_epochs_next_ledger x.a)
@[go_sem] theorem set_pt_a_epochs_next_ledger (x : Pt) (y : H32) : spliceL (encPt x) 234 (encH y).toList = encPt { x with a := { x.a with epochs := { x.a.epochs with next := { x.a.epochs.next with ledger := y } } } } := (spl_sub (i := 0) (n := 363) (dec_pt_a x) (off_pt_a x) (len_encStL _) 234 (encH y).toList (by rw [Array.length_toList, size_encH]; omega) (set_st_epochs_next_ledger x.a y)).trans (by rw [encPt, dec_pt_a])
@[go_sem] theorem pt_a_epochs_next_seed (x : Pt) : (encPt x).extract 266 298 = encH x.a.epochs.next.seed := (ext_sub (i := 0) (n := 363) (dec_pt_a x) (off_pt_a x) (len_encStL _) 266 298 (by omega)).trans (st_epochs_next_seed x.a)
@[go_sem] theorem set_pt_a_epochs_next_seed (x : Pt) (y : H32) : spliceL (encPt x) 266 (encH y).toList = encPt { x with a := { x.a with epochs := { x.a.epochs with next := { x.a.epochs.next with seed := y } } } } := (spl_sub (i := 0) (n := 363) (dec_pt_a x) (off_pt_a x) (len_encStL _) 266 (encH y).toList (by rw [Array.length_toList, size_encH]; omega) (set_st_epochs_next_seed x.a y)).trans (by rw [encPt, dec_pt_a])
@[go_sem] theorem pt_a_epochs_next_start (x : Pt) : (encPt x).extract 298 330 = encH x.a.epochs.next.start := (ext_sub (i := 0) (n := 363) (dec_pt_a x) (off_pt_a x) (len_encStL _) 298 330 (by omega)).trans (st_epochs_next_start x.a)
@[go_sem] theorem set_pt_a_epochs_next_start (x : Pt) (y : H32) : spliceL (encPt x) 298 (encH y).toList = encPt { x with a := { x.a with epochs := { x.a.epochs with next := { x.a.epochs.next with start := y } } } } := (spl_sub (i := 0) (n := 363) (dec_pt_a x) (off_pt_a x) (len_encStL _) 298 (encH y).toList (by rw [Array.length_toList, size_encH]; omega) (set_st_epochs_next_start x.a y)).trans (by rw [encPt, dec_pt_a])
@[go_sem] theorem pt_a_epochs_next_lock (x : Pt) : (encPt x).extract 330 362 = encH x.a.epochs.next.lock := (ext_sub (i := 0) (n := 363) (dec_pt_a x) (off_pt_a x) (len_encStL _) 330 362 (by omega)).trans (st_epochs_next_lock x.a)
@[go_sem] theorem set_pt_a_epochs_next_lock (x : Pt) (y : H32) : spliceL (encPt x) 330 (encH y).toList = encPt { x with a := { x.a with epochs := { x.a.epochs with next := { x.a.epochs.next with lock := y } } } } := (spl_sub (i := 0) (n := 363) (dec_pt_a x) (off_pt_a x) (len_encStL _) 330 (encH y).toList (by rw [Array.length_toList, size_encH]; omega) (set_st_epochs_next_lock x.a y)).trans (by rw [encPt, dec_pt_a])
@[go_sem] theorem pt_a_epochs_next_length (x : Pt) : (encPt x)[362]? = some (.int .u32 (x.a.epochs.next.length : Int)) := (get_sub (i := 0) (n := 363) (dec_pt_a x) (off_pt_a x) (len_encStL _) 362 (by omega)).trans (st_epochs_next_length x.a)
@[go_sem] theorem g_pt_a_epochs_next_length (x : Pt) (h : 362 < (encPt x).size) : (encPt x)[362]'h = .int .u32 (x.a.epochs.next.length : Int) := Option.some.inj ((Array.getElem?_eq_getElem h).symm.trans (pt_a_epochs_next_length x))
@[go_sem] theorem set_pt_a_epochs_next_length (x : Pt) (y : Nat) : (encPt x).setIfInBounds 362 (.int .u32 (y : Int)) = encPt { x with a := { x.a with epochs := { x.a.epochs with next := { x.a.epochs.next with length := y } } } } := (spl_sub (i := 0) (n := 363) (dec_pt_a x) (off_pt_a x) (len_encStL _) 362 [.int .u32 (y : Int)] (by simp) (set_st_epochs_next_length x.a y)).trans (by rw [encPt, dec_pt_a])
theorem dec_pt_b (x : Pt) : encPtL x = (encStL x.a) ++ ((encStL x.b) ++ (([] : List Value))) := by simp only [encPtL, List.append_assoc, List.nil_append, List.append_nil]
theorem off_pt_b (x : Pt) : (encStL x.a).length = 363 := by simp [len_encRgL, len_encWnL, len_encDtL, len_encPrL, len_encStL, len_encBkL, len_encKyL, len_encEbL, len_encCmL, len_encHL, len_encCL]
@[go_sem] theorem pt_b (x : Pt) : (encPt x).extract 363 726 = encSt x.b := part_of (i := 363) (n := 363) (dec_pt_b x) (off_pt_b x) (len_encStL _)
@[go_sem] theorem set_pt_b (x : Pt) (y : St) : spliceL (encPt x) 363 (encSt y).toList = encPt { x with b := y } := (splice_of (i := 363) (mid' := encStL y) (dec_pt_b x) (off_pt_b x) (by rw [len_encStL, len_encStL])).trans (by rw [encPt, dec_pt_b])
@[go_sem] theorem pt_b_prev (x : Pt) : (encPt x).extract 363 395 = encH x.b.prev := (ext_sub (i := 363) (n := 363) (dec_pt_b x) (off_pt_b x) (len_encStL _) 0 32 (by omega)).trans (st_prev x.b)
@[go_sem] theorem set_pt_b_prev (x : Pt) (y : H32) : spliceL (encPt x) 363 (encH y).toList = encPt { x with b := { x.b with prev := y } } := (spl_sub (i := 363) (n := 363) (dec_pt_b x) (off_pt_b x) (len_encStL _) 0 (encH y).toList (by rw [Array.length_toList, size_encH]; omega) (set_st_prev x.b y)).trans (by rw [encPt, dec_pt_b])
@[go_sem] theorem pt_b_ledger (x : Pt) : (encPt x).extract 395 427 = encH x.b.ledger := (ext_sub (i := 363) (n := 363) (dec_pt_b x) (off_pt_b x) (len_encStL _) 32 64 (by omega)).trans (st_ledger x.b)
@[go_sem] theorem set_pt_b_ledger (x : Pt) (y : H32) : spliceL (encPt x) 395 (encH y).toList = encPt { x with b := { x.b with ledger := y } } := (spl_sub (i := 363) (n := 363) (dec_pt_b x) (off_pt_b x) (len_encStL _) 32 (encH y).toList (by rw [Array.length_toList, size_encH]; omega) (set_st_ledger x.b y)).trans (by rw [encPt, dec_pt_b])
@[go_sem] theorem pt_b_draw (x : Pt) : (encPt x).extract 427 459 = encH x.b.draw := (ext_sub (i := 363) (n := 363) (dec_pt_b x) (off_pt_b x) (len_encStL _) 64 96 (by omega)).trans (st_draw x.b)
@[go_sem] theorem set_pt_b_draw (x : Pt) (y : H32) : spliceL (encPt x) 427 (encH y).toList = encPt { x with b := { x.b with draw := y } } := (spl_sub (i := 363) (n := 363) (dec_pt_b x) (off_pt_b x) (len_encStL _) 64 (encH y).toList (by rw [Array.length_toList, size_encH]; omega) (set_st_draw x.b y)).trans (by rw [encPt, dec_pt_b])
@[go_sem] theorem pt_b_slot (x : Pt) : (encPt x)[459]? = some (.int .u32 (x.b.slot : Int)) := (get_sub (i := 363) (n := 363) (dec_pt_b x) (off_pt_b x) (len_encStL _) 96 (by omega)).trans (st_slot x.b)
@[go_sem] theorem g_pt_b_slot (x : Pt) (h : 459 < (encPt x).size) : (encPt x)[459]'h = .int .u32 (x.b.slot : Int) := Option.some.inj ((Array.getElem?_eq_getElem h).symm.trans (pt_b_slot x))
@[go_sem] theorem set_pt_b_slot (x : Pt) (y : Nat) : (encPt x).setIfInBounds 459 (.int .u32 (y : Int)) = encPt { x with b := { x.b with slot := y } } := (spl_sub (i := 363) (n := 363) (dec_pt_b x) (off_pt_b x) (len_encStL _) 96 [.int .u32 (y : Int)] (by simp) (set_st_slot x.b y)).trans (by rw [encPt, dec_pt_b])
@[go_sem] theorem pt_b_length (x : Pt) : (encPt x)[460]? = some (.int .u32 (x.b.length : Int)) := (get_sub (i := 363) (n := 363) (dec_pt_b x) (off_pt_b x) (len_encStL _) 97 (by omega)).trans (st_length x.b)
@[go_sem] theorem g_pt_b_length (x : Pt) (h : 460 < (encPt x).size) : (encPt x)[460]'h = .int .u32 (x.b.length : Int) := Option.some.inj ((Array.getElem?_eq_getElem h).symm.trans (pt_b_length x))
@[go_sem] theorem set_pt_b_length (x : Pt) (y : Nat) : (encPt x).setIfInBounds 460 (.int .u32 (y : Int)) = encPt { x with b := { x.b with length := y } } := (spl_sub (i := 363) (n := 363) (dec_pt_b x) (off_pt_b x) (len_encStL _) 97 [.int .u32 (y : Int)] (by simp) (set_st_length x.b y)).trans (by rw [encPt, dec_pt_b])
@[go_sem] theorem pt_b_count (x : Pt) : (encPt x)[461]? = some (.int .u32 (x.b.count : Int)) := (get_sub (i := 363) (n := 363) (dec_pt_b x) (off_pt_b x) (len_encStL _) 98 (by omega)).trans (st_count x.b)
@[go_sem] theorem g_pt_b_count (x : Pt) (h : 461 < (encPt x).size) : (encPt x)[461]'h = .int .u32 (x.b.count : Int) := Option.some.inj ((Array.getElem?_eq_getElem h).symm.trans (pt_b_count x))
@[go_sem] theorem set_pt_b_count (x : Pt) (y : Nat) : (encPt x).setIfInBounds 461 (.int .u32 (y : Int)) = encPt { x with b := { x.b with count := y } } := (spl_sub (i := 363) (n := 363) (dec_pt_b x) (off_pt_b x) (len_encStL _) 98 [.int .u32 (y : Int)] (by simp) (set_st_count x.b y)).trans (by rw [encPt, dec_pt_b])
@[go_sem] theorem pt_b_win (x : Pt) : (encPt x).extract 462 468 = encWn x.b.win := (ext_sub (i := 363) (n := 363) (dec_pt_b x) (off_pt_b x) (len_encStL _) 99 105 (by omega)).trans (st_win x.b)
@[go_sem] theorem set_pt_b_win (x : Pt) (y : Wn) : spliceL (encPt x) 462 (encWn y).toList = encPt { x with b := { x.b with win := y } } := (spl_sub (i := 363) (n := 363) (dec_pt_b x) (off_pt_b x) (len_encStL _) 99 (encWn y).toList (by rw [Array.length_toList, size_encWn]; omega) (set_st_win x.b y)).trans (by rw [encPt, dec_pt_b])
@[go_sem] theorem pt_b_win_min (x : Pt) : (encPt x)[462]? = some (.int .u32 (x.b.win.min : Int)) := (get_sub (i := 363) (n := 363) (dec_pt_b x) (off_pt_b x) (len_encStL _) 99 (by omega)).trans (st_win_min x.b)
@[go_sem] theorem g_pt_b_win_min (x : Pt) (h : 462 < (encPt x).size) : (encPt x)[462]'h = .int .u32 (x.b.win.min : Int) := Option.some.inj ((Array.getElem?_eq_getElem h).symm.trans (pt_b_win_min x))
@[go_sem] theorem set_pt_b_win_min (x : Pt) (y : Nat) : (encPt x).setIfInBounds 462 (.int .u32 (y : Int)) = encPt { x with b := { x.b with win := { x.b.win with min := y } } } := (spl_sub (i := 363) (n := 363) (dec_pt_b x) (off_pt_b x) (len_encStL _) 99 [.int .u32 (y : Int)] (by simp) (set_st_win_min x.b y)).trans (by rw [encPt, dec_pt_b])
@[go_sem] theorem pt_b_win_ring (x : Pt) : (encPt x).extract 463 468 = encRg x.b.win.ring := (ext_sub (i := 363) (n := 363) (dec_pt_b x) (off_pt_b x) (len_encStL _) 100 105 (by omega)).trans (st_win_ring x.b)
@[go_sem] theorem set_pt_b_win_ring (x : Pt) (y : Rg) : spliceL (encPt x) 463 (encRg y).toList = encPt { x with b := { x.b with win := { x.b.win with ring := y } } } := (spl_sub (i := 363) (n := 363) (dec_pt_b x) (off_pt_b x) (len_encStL _) 100 (encRg y).toList (by rw [Array.length_toList, size_encRg]; omega) (set_st_win_ring x.b y)).trans (by rw [encPt, dec_pt_b])
@[go_sem] theorem pt_b_win_ring_last (x : Pt) : (encPt x)[463]? = some (.int .u32 (x.b.win.ring.last : Int)) := (get_sub (i := 363) (n := 363) (dec_pt_b x) (off_pt_b x) (len_encStL _) 100 (by omega)).trans (st_win_ring_last x.b)
@[go_sem] theorem g_pt_b_win_ring_last (x : Pt) (h : 463 < (encPt x).size) : (encPt x)[463]'h = .int .u32 (x.b.win.ring.last : Int) := Option.some.inj ((Array.getElem?_eq_getElem h).symm.trans (pt_b_win_ring_last x))
@[go_sem] theorem set_pt_b_win_ring_last (x : Pt) (y : Nat) : (encPt x).setIfInBounds 463 (.int .u32 (y : Int)) = encPt { x with b := { x.b with win := { x.b.win with ring := { x.b.win.ring with last := y } } } } := (spl_sub (i := 363) (n := 363) (dec_pt_b x) (off_pt_b x) (len_encStL _) 100 [.int .u32 (y : Int)] (by simp) (set_st_win_ring_last x.b y)).trans (by rw [encPt, dec_pt_b])
@[go_sem] theorem pt_b_win_ring_counts (x : Pt) : (encPt x).extract 464 468 = encC x.b.win.ring.counts := (ext_sub (i := 363) (n := 363) (dec_pt_b x) (off_pt_b x) (len_encStL _) 101 105 (by omega)).trans (st_win_ring_counts x.b)
@[go_sem] theorem set_pt_b_win_ring_counts (x : Pt) (y : C4) : spliceL (encPt x) 464 (encC y).toList = encPt { x with b := { x.b with win := { x.b.win with ring := { x.b.win.ring with counts := y } } } } := (spl_sub (i := 363) (n := 363) (dec_pt_b x) (off_pt_b x) (len_encStL _) 101 (encC y).toList (by rw [Array.length_toList, size_encC]; omega) (set_st_win_ring_counts x.b y)).trans (by rw [encPt, dec_pt_b])
@[go_sem] theorem pt_b_epochs (x : Pt) : (encPt x).extract 468 726 = encPr x.b.epochs := (ext_sub (i := 363) (n := 363) (dec_pt_b x) (off_pt_b x) (len_encStL _) 105 363 (by omega)).trans (st_epochs x.b)
@[go_sem] theorem set_pt_b_epochs (x : Pt) (y : Pr) : spliceL (encPt x) 468 (encPr y).toList = encPt { x with b := { x.b with epochs := y } } := (spl_sub (i := 363) (n := 363) (dec_pt_b x) (off_pt_b x) (len_encStL _) 105 (encPr y).toList (by rw [Array.length_toList, size_encPr]; omega) (set_st_epochs x.b y)).trans (by rw [encPt, dec_pt_b])
@[go_sem] theorem pt_b_epochs_now (x : Pt) : (encPt x).extract 468 597 = encDt x.b.epochs.now := (ext_sub (i := 363) (n := 363) (dec_pt_b x) (off_pt_b x) (len_encStL _) 105 234 (by omega)).trans (st_epochs_now x.b)
@[go_sem] theorem set_pt_b_epochs_now (x : Pt) (y : Dt) : spliceL (encPt x) 468 (encDt y).toList = encPt { x with b := { x.b with epochs := { x.b.epochs with now := y } } } := (spl_sub (i := 363) (n := 363) (dec_pt_b x) (off_pt_b x) (len_encStL _) 105 (encDt y).toList (by rw [Array.length_toList, size_encDt]; omega) (set_st_epochs_now x.b y)).trans (by rw [encPt, dec_pt_b])
@[go_sem] theorem pt_b_epochs_now_ledger (x : Pt) : (encPt x).extract 468 500 = encH x.b.epochs.now.ledger := (ext_sub (i := 363) (n := 363) (dec_pt_b x) (off_pt_b x) (len_encStL _) 105 137 (by omega)).trans (st_epochs_now_ledger x.b)
@[go_sem] theorem set_pt_b_epochs_now_ledger (x : Pt) (y : H32) : spliceL (encPt x) 468 (encH y).toList = encPt { x with b := { x.b with epochs := { x.b.epochs with now := { x.b.epochs.now with ledger := y } } } } := (spl_sub (i := 363) (n := 363) (dec_pt_b x) (off_pt_b x) (len_encStL _) 105 (encH y).toList (by rw [Array.length_toList, size_encH]; omega) (set_st_epochs_now_ledger x.b y)).trans (by rw [encPt, dec_pt_b])
@[go_sem] theorem pt_b_epochs_now_seed (x : Pt) : (encPt x).extract 500 532 = encH x.b.epochs.now.seed := (ext_sub (i := 363) (n := 363) (dec_pt_b x) (off_pt_b x) (len_encStL _) 137 169 (by omega)).trans (st_epochs_now_seed x.b)
@[go_sem] theorem set_pt_b_epochs_now_seed (x : Pt) (y : H32) : spliceL (encPt x) 500 (encH y).toList = encPt { x with b := { x.b with epochs := { x.b.epochs with now := { x.b.epochs.now with seed := y } } } } := (spl_sub (i := 363) (n := 363) (dec_pt_b x) (off_pt_b x) (len_encStL _) 137 (encH y).toList (by rw [Array.length_toList, size_encH]; omega) (set_st_epochs_now_seed x.b y)).trans (by rw [encPt, dec_pt_b])
@[go_sem] theorem pt_b_epochs_now_start (x : Pt) : (encPt x).extract 532 564 = encH x.b.epochs.now.start := (ext_sub (i := 363) (n := 363) (dec_pt_b x) (off_pt_b x) (len_encStL _) 169 201 (by omega)).trans (st_epochs_now_start x.b)
@[go_sem] theorem set_pt_b_epochs_now_start (x : Pt) (y : H32) : spliceL (encPt x) 532 (encH y).toList = encPt { x with b := { x.b with epochs := { x.b.epochs with now := { x.b.epochs.now with start := y } } } } := (spl_sub (i := 363) (n := 363) (dec_pt_b x) (off_pt_b x) (len_encStL _) 169 (encH y).toList (by rw [Array.length_toList, size_encH]; omega) (set_st_epochs_now_start x.b y)).trans (by rw [encPt, dec_pt_b])
@[go_sem] theorem pt_b_epochs_now_lock (x : Pt) : (encPt x).extract 564 596 = encH x.b.epochs.now.lock := (ext_sub (i := 363) (n := 363) (dec_pt_b x) (off_pt_b x) (len_encStL _) 201 233 (by omega)).trans (st_epochs_now_lock x.b)
@[go_sem] theorem set_pt_b_epochs_now_lock (x : Pt) (y : H32) : spliceL (encPt x) 564 (encH y).toList = encPt { x with b := { x.b with epochs := { x.b.epochs with now := { x.b.epochs.now with lock := y } } } } := (spl_sub (i := 363) (n := 363) (dec_pt_b x) (off_pt_b x) (len_encStL _) 201 (encH y).toList (by rw [Array.length_toList, size_encH]; omega) (set_st_epochs_now_lock x.b y)).trans (by rw [encPt, dec_pt_b])
@[go_sem] theorem pt_b_epochs_now_length (x : Pt) : (encPt x)[596]? = some (.int .u32 (x.b.epochs.now.length : Int)) := (get_sub (i := 363) (n := 363) (dec_pt_b x) (off_pt_b x) (len_encStL _) 233 (by omega)).trans (st_epochs_now_length x.b)
@[go_sem] theorem g_pt_b_epochs_now_length (x : Pt) (h : 596 < (encPt x).size) : (encPt x)[596]'h = .int .u32 (x.b.epochs.now.length : Int) := Option.some.inj ((Array.getElem?_eq_getElem h).symm.trans (pt_b_epochs_now_length x))
@[go_sem] theorem set_pt_b_epochs_now_length (x : Pt) (y : Nat) : (encPt x).setIfInBounds 596 (.int .u32 (y : Int)) = encPt { x with b := { x.b with epochs := { x.b.epochs with now := { x.b.epochs.now with length := y } } } } := (spl_sub (i := 363) (n := 363) (dec_pt_b x) (off_pt_b x) (len_encStL _) 233 [.int .u32 (y : Int)] (by simp) (set_st_epochs_now_length x.b y)).trans (by rw [encPt, dec_pt_b])
@[go_sem] theorem pt_b_epochs_next (x : Pt) : (encPt x).extract 597 726 = encDt x.b.epochs.next := (ext_sub (i := 363) (n := 363) (dec_pt_b x) (off_pt_b x) (len_encStL _) 234 363 (by omega)).trans (st_epochs_next x.b)
@[go_sem] theorem set_pt_b_epochs_next (x : Pt) (y : Dt) : spliceL (encPt x) 597 (encDt y).toList = encPt { x with b := { x.b with epochs := { x.b.epochs with next := y } } } := (spl_sub (i := 363) (n := 363) (dec_pt_b x) (off_pt_b x) (len_encStL _) 234 (encDt y).toList (by rw [Array.length_toList, size_encDt]; omega) (set_st_epochs_next x.b y)).trans (by rw [encPt, dec_pt_b])
@[go_sem] theorem pt_b_epochs_next_ledger (x : Pt) : (encPt x).extract 597 629 = encH x.b.epochs.next.ledger := (ext_sub (i := 363) (n := 363) (dec_pt_b x) (off_pt_b x) (len_encStL _) 234 266 (by omega)).trans (st_epochs_next_ledger x.b)
@[go_sem] theorem set_pt_b_epochs_next_ledger (x : Pt) (y : H32) : spliceL (encPt x) 597 (encH y).toList = encPt { x with b := { x.b with epochs := { x.b.epochs with next := { x.b.epochs.next with ledger := y } } } } := (spl_sub (i := 363) (n := 363) (dec_pt_b x) (off_pt_b x) (len_encStL _) 234 (encH y).toList (by rw [Array.length_toList, size_encH]; omega) (set_st_epochs_next_ledger x.b y)).trans (by rw [encPt, dec_pt_b])
@[go_sem] theorem pt_b_epochs_next_seed (x : Pt) : (encPt x).extract 629 661 = encH x.b.epochs.next.seed := (ext_sub (i := 363) (n := 363) (dec_pt_b x) (off_pt_b x) (len_encStL _) 266 298 (by omega)).trans (st_epochs_next_seed x.b)
@[go_sem] theorem set_pt_b_epochs_next_seed (x : Pt) (y : H32) : spliceL (encPt x) 629 (encH y).toList = encPt { x with b := { x.b with epochs := { x.b.epochs with next := { x.b.epochs.next with seed := y } } } } := (spl_sub (i := 363) (n := 363) (dec_pt_b x) (off_pt_b x) (len_encStL _) 266 (encH y).toList (by rw [Array.length_toList, size_encH]; omega) (set_st_epochs_next_seed x.b y)).trans (by rw [encPt, dec_pt_b])
@[go_sem] theorem pt_b_epochs_next_start (x : Pt) : (encPt x).extract 661 693 = encH x.b.epochs.next.start := (ext_sub (i := 363) (n := 363) (dec_pt_b x) (off_pt_b x) (len_encStL _) 298 330 (by omega)).trans (st_epochs_next_start x.b)
@[go_sem] theorem set_pt_b_epochs_next_start (x : Pt) (y : H32) : spliceL (encPt x) 661 (encH y).toList = encPt { x with b := { x.b with epochs := { x.b.epochs with next := { x.b.epochs.next with start := y } } } } := (spl_sub (i := 363) (n := 363) (dec_pt_b x) (off_pt_b x) (len_encStL _) 298 (encH y).toList (by rw [Array.length_toList, size_encH]; omega) (set_st_epochs_next_start x.b y)).trans (by rw [encPt, dec_pt_b])
@[go_sem] theorem pt_b_epochs_next_lock (x : Pt) : (encPt x).extract 693 725 = encH x.b.epochs.next.lock := (ext_sub (i := 363) (n := 363) (dec_pt_b x) (off_pt_b x) (len_encStL _) 330 362 (by omega)).trans (st_epochs_next_lock x.b)
@[go_sem] theorem set_pt_b_epochs_next_lock (x : Pt) (y : H32) : spliceL (encPt x) 693 (encH y).toList = encPt { x with b := { x.b with epochs := { x.b.epochs with next := { x.b.epochs.next with lock := y } } } } := (spl_sub (i := 363) (n := 363) (dec_pt_b x) (off_pt_b x) (len_encStL _) 330 (encH y).toList (by rw [Array.length_toList, size_encH]; omega) (set_st_epochs_next_lock x.b y)).trans (by rw [encPt, dec_pt_b])
@[go_sem] theorem pt_b_epochs_next_length (x : Pt) : (encPt x)[725]? = some (.int .u32 (x.b.epochs.next.length : Int)) := (get_sub (i := 363) (n := 363) (dec_pt_b x) (off_pt_b x) (len_encStL _) 362 (by omega)).trans (st_epochs_next_length x.b)
@[go_sem] theorem g_pt_b_epochs_next_length (x : Pt) (h : 725 < (encPt x).size) : (encPt x)[725]'h = .int .u32 (x.b.epochs.next.length : Int) := Option.some.inj ((Array.getElem?_eq_getElem h).symm.trans (pt_b_epochs_next_length x))
@[go_sem] theorem set_pt_b_epochs_next_length (x : Pt) (y : Nat) : (encPt x).setIfInBounds 725 (.int .u32 (y : Int)) = encPt { x with b := { x.b with epochs := { x.b.epochs with next := { x.b.epochs.next with length := y } } } } := (spl_sub (i := 363) (n := 363) (dec_pt_b x) (off_pt_b x) (len_encStL _) 362 [.int .u32 (y : Int)] (by simp) (set_st_epochs_next_length x.b y)).trans (by rw [encPt, dec_pt_b])
@[go_sem] theorem all_pt (x y : Pt) : spliceL (encPt x) 0 (encPt y).toList = encPt y := by rw [spliceL_all _ _ (by show (encPtL y).length = (encPt x).size; rw [len_encPtL, size_encPt])]
@[go_sem] theorem whole_pt (x : Pt) : (encPt x).extract 0 726 = encPt x := by have := size_encPt x; rw [← this]; exact Array.extract_size
end Go.Alm


/- BYTES THAT GROW: append, in one step. -/
import Derived.Test.YtpoaakdljpdkfaaDoorC11
import Derived.Laws.AppendOwn
import Derived.Lib.AppendStr
set_option linter.unusedSimpArgs false
set_option linter.unusedVariables false
namespace Go.Proofs.YtpoaakdljpdkfaaDoor
open Go.RowKit Go.Alm
/-- v is a slice of the walk's own that holds the bytes bs -/
def Bs (base : Nat) (w : World) (v : Value) (bs : List Nat) : Prop := w.ownsRow base 5 1 v bs.length (bs.map fun n : Nat => Value.int .u8 (n : Int))
theorem Bs.below {base : Nat} {w w' : World} {v : Value} {bs : List Nat} (h : Bs base w v bs) (hb : Below w.heap.size w w') : Bs base w' v bs := by
  refine ⟨h.1, ?_⟩
  rcases h.2 with h1 | ⟨g, cap, cur, h1, h2, h3, h4⟩
  · exact .inl h1
  · exact .inr ⟨g, cap, cur, h1, h2, (hb.block g (Array.getElem?_eq_some_iff.1 h3).1).trans h3, h4⟩
theorem wpList_appB {w : World} {ops : Array Oper} {rest : List Oper} {o : Oper} {a : Act} {Q : Exit → Act → World → Prop} (hgd : o.guard = none) (s x : Operand)
    (ho : o.op = .call { callee := .builtin .append, args := #[s, x], argTypes := #[124, 124] }) (base : Nat) (v : Value) (bs news : List Nat) (hs : a.eval s = v) (hown : Bs base w v bs)
    (g off m c : Nat) (hx : a.eval x = .slice (some ⟨g, off, none⟩) m c) (hm : m = news.length) (hrow : (w.rowD g).extract off (off + news.length) = encB news) (hlen : bs.length + news.length ≤ 140737488355328) (hbase : base ≤ w.heap.size)
    (h : ∀ v' w', Bs base w' v' (bs ++ news) → w.grownBy w' v.ownBlock → wpList Tryd.prog ops Q rest (a.put o.dst v') w') : wpList Tryd.prog ops Q (o :: rest) a w := by
  subst hm
  obtain ⟨i, hi⟩ : ∃ i, Tryd.prog.info? 5 = some i := Option.isSome_iff_exists.1 (by kernel_rfl)
  have hz : (Tryd.prog.info? 5).bind (·.zero) = some (.int .u8 0) := by kernel_rfl
  have hsz : (Tryd.prog.info? 5).map (·.size) = some 1 := by kernel_rfl
  have hby : (Tryd.prog.info? 5).map (·.bytes) = some 1 := by kernel_rfl
  rw [hi] at hz hsz hby
  refine wpList_append_own w hgd s x 124 ho base 5 i (.int .u8 0) 1 1 (by kernel_rfl) hi (by simpa using hz) (by simpa using hsz) (by simpa using hby) rfl (by omega) v bs.length _ hs hown ⟨g, off, none⟩ news.length c (news.map fun n : Nat => Value.int .u8 (n : Int)) hx (by simp) (fun j u hj => ?_) (fun u hu => ?_) (by simp only [maxLen]; omega) (by omega) hbase (fun v' w' h1 h2 _ => h v' w' ?_ h2)
  · rw [addr_mid, cell_rowD]
    have e := congrArg (·[j]?) hrow
    simp only [encB, List.getElem?_toArray] at e
    rw [hj] at e
    simp only [Array.getElem?_extract] at e
    split at e
    · exact e
    · cases e
  · obtain ⟨n, _, rfl⟩ := List.mem_map.1 hu; rfl
  · unfold Bs
    simpa using h1
theorem wpList_appS {w : World} {ops : Array Oper} {rest : List Oper} {o : Oper} {a : Act} {Q : Exit → Act → World → Prop} (hgd : o.guard = none) (s x : Operand)
    (ho : o.op = .call { callee := .builtin .append, args := #[s, x], argTypes := #[124, 9] }) (base : Nat) (v : Value) (bs news : List Nat) (hs : a.eval s = v) (hown : Bs base w v bs)
    (st : ByteArray) (hx : a.eval x = .string st) (hst : Lib.strCells st = news.map fun n : Nat => Value.int .u8 (n : Int)) (hsz : st.size = news.length) (hlen : bs.length + news.length ≤ 140737488355328) (hbase : base ≤ w.heap.size)
    (h : ∀ v' w', Bs base w' v' (bs ++ news) → w.grownBy w' v.ownBlock → wpList Tryd.prog ops Q rest (a.put o.dst v') w') : wpList Tryd.prog ops Q (o :: rest) a w := by
  obtain ⟨i, hi⟩ : ∃ i, Tryd.prog.info? 5 = some i := Option.isSome_iff_exists.1 (by kernel_rfl)
  have hz : (Tryd.prog.info? 5).bind (·.zero) = some (.int .u8 0) := by kernel_rfl
  have hsz1 : (Tryd.prog.info? 5).map (·.size) = some 1 := by kernel_rfl
  have hby : (Tryd.prog.info? 5).map (·.bytes) = some 1 := by kernel_rfl
  rw [hi] at hz hsz1 hby
  refine Lib.wpList_append_own_string w hgd s x 124 9 ho base 5 i (by kernel_rfl) (by kernel_rfl) hi (by simpa using hz) (by simpa using hsz1) (by simpa using hby) v bs.length _ hs hown st hx (by rw [hsz]; simp only [maxLen]; omega) (by omega) hbase (fun v' w' h1 h2 _ => h v' w' ?_ h2)
  unfold Bs
  rw [hst, hsz] at h1
  simpa using h1
end Go.Proofs.YtpoaakdljpdkfaaDoor

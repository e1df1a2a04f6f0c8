/- SHA-256 AS A PLAIN FUNCTION ON LISTS OF NUMBERS. -/
namespace Go.Alm

def m32 : Nat := 4294967296

/-- bits turned to the right -/
def rotr (x k : Nat) : Nat := (x / 2 ^ k) ||| (x * 2 ^ (32 - k) % 4294967296)

def sig (x a b c : Nat) : Nat := (rotr x a ^^^ rotr x b) ^^^ rotr x c
def shf (x a b c : Nat) : Nat := (rotr x a ^^^ rotr x b) ^^^ (x / 2 ^ c)

def keys : List Nat := [
  0x428a2f98, 0x71374491, 0xb5c0fbcf, 0xe9b5dba5, 0x3956c25b, 0x59f111f1, 0x923f82a4, 0xab1c5ed5,
  0xd807aa98, 0x12835b01, 0x243185be, 0x550c7dc3, 0x72be5d74, 0x80deb1fe, 0x9bdc06a7, 0xc19bf174,
  0xe49b69c1, 0xefbe4786, 0x0fc19dc6, 0x240ca1cc, 0x2de92c6f, 0x4a7484aa, 0x5cb0a9dc, 0x76f988da,
  0x983e5152, 0xa831c66d, 0xb00327c8, 0xbf597fc7, 0xc6e00bf3, 0xd5a79147, 0x06ca6351, 0x14292967,
  0x27b70a85, 0x2e1b2138, 0x4d2c6dfc, 0x53380d13, 0x650a7354, 0x766a0abb, 0x81c2c92e, 0x92722c85,
  0xa2bfe8a1, 0xa81a664b, 0xc24b8b70, 0xc76c51a3, 0xd192e819, 0xd6990624, 0xf40e3585, 0x106aa070,
  0x19a4c116, 0x1e376c08, 0x2748774c, 0x34b0bcb5, 0x391c0cb3, 0x4ed8aa4a, 0x5b9cca4f, 0x682e6ff3,
  0x748f82ee, 0x78a5636f, 0x84c87814, 0x8cc70208, 0x90befffa, 0xa4506ceb, 0xbef9a3f7, 0xc67178f2]

def iv : List Nat := [0x6a09e667, 0xbb67ae85, 0x3c6ef372, 0xa54ff53a, 0x510e527f, 0x9b05688c, 0x1f83d9ab, 0x5be0cd19]

/-- a number of four bytes -/
def be4 (a b c d : Nat) : Nat := ((a * 256 + b) * 256 + c) * 256 + d

/-- the first t numbers w of a block (t at most 16) -/
def words (b : List Nat) (t : Nat) : List Nat := (List.range t).map fun i => be4 (b.getD (4*i) 0) (b.getD (4*i+1) 0) (b.getD (4*i+2) 0) (b.getD (4*i+3) 0)

def nextW (w : List Nat) : Nat :=
  let t := w.length
  (((shf (w.getD (t-2) 0) 17 19 10 + w.getD (t-7) 0) % 4294967296 + shf (w.getD (t-15) 0) 7 18 3) % 4294967296 + w.getD (t-16) 0) % 4294967296

def moreW : Nat → List Nat → List Nat
  | 0, w => w
  | n+1, w => let w' := moreW n w; w' ++ [nextW w']

def sched (b : List Nat) : List Nat := moreW 48 (words b 16)

def roundS (s : List Nat) (k w : Nat) : List Nat :=
  match s with
  | [a, b, c, d, e, f, g, h] =>
    let choice := (e &&& f) ^^^ ((4294967295 - e) &&& g)
    let one := ((((h + sig e 6 11 25) % 4294967296 + choice) % 4294967296 + k) % 4294967296 + w) % 4294967296
    let two := (sig a 2 13 22 + (((a &&& b) ^^^ (a &&& c)) ^^^ (b &&& c))) % 4294967296
    [(one + two) % 4294967296, a, b, c, (d + one) % 4294967296, e, f, g]
  | s => s

def rounds (s : List Nat) (kw : List (Nat × Nat)) : List Nat := kw.foldl (fun s p => roundS s p.1 p.2) s

def mix (s : List Nat) (b : List Nat) : List Nat :=
  List.zipWith (fun x y => (x + y) % 4294967296) s (rounds s (keys.zip (sched b)))

/-- all whole blocks, n of them -/
def mixes : Nat → List Nat → List Nat → List Nat
  | 0, s, _ => s
  | n+1, s, b => mixes n (mix s (b.take 64)) (b.drop 64)

def pad (n : Nat) : List Nat := [128] ++ List.replicate ((119 - n % 64) % 64) 0 ++ (List.range 8).map fun i => n * 8 / 256 ^ (7 - i) % 256

def outB (s : List Nat) : List Nat := s.flatMap fun x => [x / 16777216 % 256, x / 65536 % 256, x / 256 % 256, x % 256]


theorem length_roundS (s : List Nat) (k w : Nat) (h : s.length = 8) : (roundS s k w).length = 8 := by
  match s, h with
  | [a, b, c, d, e, f, g, i], _ => rfl

theorem length_rounds (s : List Nat) (kw : List (Nat × Nat)) (h : s.length = 8) : (rounds s kw).length = 8 := by
  unfold rounds
  induction kw generalizing s with
  | nil => exact h
  | cons p kw ih => exact ih _ (length_roundS s _ _ h)

theorem length_mix (s b : List Nat) (h : s.length = 8) : (mix s b).length = 8 := by
  unfold mix
  rw [List.length_zipWith, length_rounds _ _ h, h]; rfl

theorem length_mixes (n : Nat) (s b : List Nat) (h : s.length = 8) : (mixes n s b).length = 8 := by
  induction n generalizing s b with
  | zero => exact h
  | succ n ih => exact ih _ _ (length_mix s _ h)

theorem length_outB (s : List Nat) : (outB s).length = s.length * 4 := by
  unfold outB
  induction s with
  | nil => rfl
  | cons x s ih => simp only [List.flatMap_cons, List.length_append, ih, List.length_cons, List.length_nil]; omega

theorem lt_outB (s : List Nat) (x : Nat) (h : x ∈ outB s) : x < 256 := by
  unfold outB at h
  rw [List.mem_flatMap] at h
  obtain ⟨y, _, h⟩ := h
  simp only [List.mem_cons, List.not_mem_nil, or_false] at h
  rcases h with h | h | h | h <;> subst h <;> exact Nat.mod_lt _ (by omega)

/-- 32 numbers below 256 -/
structure H32 where
  l : List Nat
  len : l.length = 32
  lt : ∀ x ∈ l, x < 256

theorem H32.ext {a b : H32} (h : a.l = b.l) : a = b := by cases a; cases b; simp at h; subst h; rfl
instance : DecidableEq H32 := fun a b => decidable_of_iff (a.l = b.l) ⟨H32.ext, fun h => by rw [h]⟩

def shaL (b : List Nat) : List Nat := let p := b ++ pad b.length; outB (mixes (p.length / 64) iv p)
def sha (b : List Nat) : H32 := ⟨shaL b, by
  unfold shaL
  rw [length_outB, length_mixes _ _ _ rfl], fun x h => lt_outB _ x h⟩

end Go.Alm

/- WHAT THE PROGRAM COMPUTES, AS PLAIN LEAN FUNCTIONS. -/
namespace Go.Alm

/-! numbers -/
def epochOf (s : Nat) : Nat := s / 24
def placeOf (s : Nat) : Nat := s % 24
def locking (s : Nat) : Bool := decide (placeOf s < 16)
def subOf (s : Nat) : Nat := s / 3

/-- four numbers -/
structure C4 where
  l : List Nat
  len : l.length = 4
deriving DecidableEq

structure Rg where
  last : Nat
  counts : C4
deriving DecidableEq

structure Wn where
  min : Nat
  ring : Rg
deriving DecidableEq

structure Dt where
  ledger : H32
  seed : H32
  start : H32
  lock : H32
  length : Nat
deriving DecidableEq

structure Pr where
  now : Dt
  next : Dt
deriving DecidableEq

structure St where
  prev : H32
  ledger : H32
  draw : H32
  slot : Nat
  length : Nat
  count : Nat
  win : Wn
  epochs : Pr
deriving DecidableEq

def zeroH : H32 := ⟨List.replicate 32 0, by simp, fun x h => by rw [List.eq_of_mem_replicate h]; omega⟩
def zeroC : C4 := ⟨[0, 0, 0, 0], rfl⟩
def ring0 : Rg := ⟨0, zeroC⟩
def win0 : Wn := ⟨0, ring0⟩
def data0 : Dt := ⟨zeroH, zeroH, zeroH, zeroH, 0⟩
def pair0 : Pr := ⟨data0, data0⟩
def state0 : St := ⟨zeroH, zeroH, zeroH, 0, 0, 0, win0, pair0⟩

/-! ring -/
def C4.get (c : C4) (i : Nat) : Nat := c.l.getD i 0
def C4.put (c : C4) (i v : Nat) : C4 := ⟨c.l.set i v, by rw [List.length_set]; exact c.len⟩
def ringGenesis : Rg := ⟨0, ⟨[1, 3, 3, 3], rfl⟩⟩
def ringRight (r : Rg) : Bool := r.counts.l.all (· ≤ 3) && (r.counts != zeroC) && decide (0 < r.counts.get (r.last % 4))
def sum4 (l : C4) : Nat := l.l.foldl (fun a b => (a + b) % 4294967296) 0
/-- the counts when a later sub-window comes -/
def passedC (last : Nat) (cs : C4) (sub : Nat) : C4 :=
  let gone := sub - last - 1
  let cs := if 4 ≤ gone then zeroC else cs
  (List.range (min gone 4)).foldl (fun c i => c.put ((last % 4 + 1 + i) % 4) 0) cs
def beforeR (r : Rg) (sub : Nat) : Nat × Nat := if sub ≤ r.last then (0, 6) else (sum4 (passedC r.last r.counts sub), 0)
def putR (r : Rg) (sub : Nat) : Rg × Nat :=
  if sub < r.last then (ring0, 6)
  else if sub = r.last ∧ 3 ≤ r.counts.get (sub % 4) then (ring0, 11)
  else
    let r := if r.last < sub then ⟨sub, (passedC r.last r.counts sub).put (sub % 4) 0⟩ else r
    (⟨r.last, r.counts.put (sub % 4) ((r.counts.get (sub % 4) + 1) % 4294967296)⟩, 0)

/-! window -/
def winGenesis : Wn := ⟨12, ringGenesis⟩
def winRight (w : Wn) : Bool := decide (w.min ≤ 12) && ringRight w.ring
def least (w : Wn) (s : Nat) : Nat := let b := beforeR w.ring (subOf s); if s < 12 ∨ b.2 ≠ 0 then w.min else min w.min b.1
def putW (w : Wn) (s : Nat) : Wn × Nat := let p := putR w.ring (subOf s); if p.2 ≠ 0 then (win0, p.2) else (⟨least w s, p.1⟩, 0)

/-! tag -/
def be (n k : Nat) : List Nat := (List.range k).map fun i => n / 256 ^ (k - 1 - i) % 256
def image (name : List Nat) (parts : List (List Nat)) : List Nat := [name.length] ++ name ++ [parts.length] ++ parts.flatMap fun p => be p.length 4 ++ p
def tagOf (name : List Nat) (parts : List (List Nat)) : H32 := sha (image name parts)

def seedName : List Nat := [115, 101, 101, 100]
def stateName : List Nat := [115, 116, 97, 116, 101]

/-! epoch -/
def firstP (ledger : H32) : Pr := let d : Dt := ⟨ledger, zeroH, zeroH, zeroH, 1⟩; ⟨d, d⟩
def follow (p : Pr) (frm to : Nat) (prev ledger draw : H32) : Pr × Nat :=
  if to ≤ frm then (pair0, 6)
  else
    let turns := decide (epochOf frm < epochOf to)
    if turns = false ∧ 4294967296 ≤ p.next.length + 1 then (pair0, 5)
    else
      let q : Pr := if turns then ⟨p.next, ⟨ledger, p.next.seed, prev, zeroH, 1⟩⟩ else ⟨p.now, { p.next with length := p.next.length + 1 }⟩
      if locking to then (⟨q.now, { q.next with seed := tagOf seedName [q.next.seed.l, draw.l], lock := prev }⟩, 0) else (q, 0)

/-! state -/
def genesis (ledger : H32) : St := ⟨zeroH, ledger, zeroH, 0, 1, 0, winGenesis, firstP ledger⟩
def right (s : St) : Bool :=
  winRight s.win && decide (s.win.ring.last = subOf s.slot) && decide (0 < s.length) && decide (s.length - 1 ≤ s.slot) && decide (s.count ≤ epochOf s.slot) && decide (s.count < s.length)
    && decide (0 < s.epochs.next.length) && decide (s.epochs.next.length ≤ s.length) && decide (s.epochs.next.length - 1 ≤ placeOf s.slot)
def dataBytes (d : Dt) : List Nat := d.ledger.l ++ d.seed.l ++ d.start.l ++ d.lock.l ++ be d.length 4
def bytesOf (s : St) : List Nat :=
  s.prev.l ++ s.ledger.l ++ s.draw.l ++ be s.slot 4 ++ be s.length 4 ++ be s.count 4 ++ be s.win.min 4 ++ be s.win.ring.last 4
   ++ s.win.ring.counts.l.flatMap (be · 4) ++ dataBytes s.epochs.now ++ dataBytes s.epochs.next
def hashOf (s : St) : H32 := tagOf stateName [bytesOf s]

/-! grow -/
structure Bk where
  slot : Nat
  ledger : H32
  draw : H32
deriving DecidableEq

def child (s : St) (b : Bk) : St × Nat :=
  if b.slot ≤ s.slot then (state0, 6)
  else
    let turn := if epochOf s.slot < epochOf b.slot then 1 else 0
    let prev := hashOf s
    let w := putW s.win b.slot
    let p := follow s.epochs s.slot b.slot prev s.ledger b.draw
    let e := if 4294967296 ≤ s.length + 1 then 5 else if 4294967296 ≤ s.count + turn then 5 else if w.2 ≠ 0 then w.2 else p.2
    if e ≠ 0 then (state0, e) else (⟨prev, b.ledger, b.draw, b.slot, s.length + 1, s.count + turn, w.1, p.1⟩, 0)

def chainFrom : St → List Bk → Nat → St × Nat × Nat
  | s, [], i => (s, i, 0)
  | s, b :: l, i => let c := child s b; if c.2 ≠ 0 then (s, i, c.2) else chainFrom c.1 l (i + 1)
def chain (ledger : H32) (l : List Bk) : St × Nat × Nat := chainFrom (genesis ledger) l 0

/-- what epoch.Follow takes; a window and a slot; two states -/
structure Eb where
  frm : Nat
  to : Nat
  prev : H32
  ledger : H32
  draw : H32
deriving DecidableEq
structure Cm where
  win : Wn
  slot : Nat
deriving DecidableEq
structure Pt where
  a : St
  b : St
deriving DecidableEq
structure Ky where
  length : Nat
  draw : H32
  hash : H32
deriving DecidableEq
def block0 : Bk := ⟨0, zeroH, zeroH⟩
def eblock0 : Eb := ⟨0, 0, zeroH, zeroH, zeroH⟩
def coming0 : Cm := ⟨win0, 0⟩
def pt0 : Pt := ⟨state0, state0⟩
def key0 : Ky := ⟨0, zeroH, zeroH⟩
end Go.Alm

/- THE PLAIN LAW OF GrowRight: a child of a state that is right is right, or it is refused for one of the named reasons. -/
namespace Go.Alm

theorem C4.parts (c : C4) : ∃ x y z u, c = ⟨[x, y, z, u], rfl⟩ := by
  obtain ⟨l, h⟩ := c
  match l, h with
  | [x, y, z, u], _ => exact ⟨x, y, z, u, rfl⟩

theorem C4.get_put (c : C4) (i v : Nat) (h : i < 4) : (c.put i v).get i = v := by
  have := c.len
  simp [C4.get, C4.put, List.getD_eq_getElem?_getD, this, h]

theorem C4.mem_put {c : C4} {i v x : Nat} (h : x ∈ (c.put i v).l) : x ∈ c.l ∨ x = v := List.mem_or_eq_of_mem_set h

theorem le_passedC (last : Nat) (cs : C4) (sub : Nat) (h : ∀ x ∈ cs.l, x ≤ 3) : ∀ x ∈ (passedC last cs sub).l, x ≤ 3 := by
  unfold passedC
  have key : ∀ (l : List Nat) (c : C4), (∀ x ∈ c.l, x ≤ 3) → ∀ x ∈ (l.foldl (fun c i => c.put ((last % 4 + 1 + i) % 4) 0) c).l, x ≤ 3 := by
    intro l
    induction l with
    | nil => intro c h; exact h
    | cons x l ih =>
      intro c h
      refine ih _ ?_
      intro y hy
      rcases C4.mem_put hy with h1 | h1
      · exact h y h1
      · omega
  refine key _ _ ?_
  split
  · intro x hx; simp [zeroC] at hx; omega
  · exact h

/-- what is known of numbers in memory -/
structure Rg.Wf (r : Rg) : Prop where
  last : r.last < 4294967296
  counts : ∀ x ∈ r.counts.l, x < 4294967296

structure Wn.Wf (w : Wn) : Prop where
  min : w.min < 4294967296
  ring : w.ring.Wf

structure St.Wf (s : St) : Prop where
  slot : s.slot < 4294967296
  length : s.length < 4294967296
  count : s.count < 4294967296
  win : s.win.Wf
  now : s.epochs.now.length < 4294967296
  next : s.epochs.next.length < 4294967296

theorem ringRight_iff (r : Rg) : ringRight r = true ↔ (∀ x ∈ r.counts.l, x ≤ 3) ∧ 0 < r.counts.get (r.last % 4) := by
  unfold ringRight
  simp only [Bool.and_eq_true, List.all_eq_true, decide_eq_true_eq, bne_iff_ne, ne_eq]
  constructor
  · rintro ⟨⟨h, _⟩, h2⟩; exact ⟨h, h2⟩
  · rintro ⟨h, h2⟩
    refine ⟨⟨h, ?_⟩, h2⟩
    intro e
    rw [e] at h2
    have : ∀ k, k < 4 → zeroC.get k = 0 := by decide
    rw [this _ (Nat.mod_lt _ (by omega))] at h2
    omega

theorem putR_right {r : Rg} {sub : Nat} (hr : ringRight r = true) (h0 : (putR r sub).2 = 0) :
    ringRight (putR r sub).1 = true ∧ (putR r sub).1.last = sub := by
  rw [ringRight_iff] at hr
  rw [ringRight_iff]
  have hm : sub % 4 < 4 := Nat.mod_lt _ (by omega)
  unfold putR at h0 ⊢
  by_cases h1 : sub < r.last
  · rw [if_pos h1] at h0; simp at h0
  rw [if_neg h1] at h0 ⊢
  by_cases h2 : sub = r.last ∧ 3 ≤ r.counts.get (sub % 4)
  · rw [if_pos h2] at h0; simp at h0
  rw [if_neg h2] at h0 ⊢
  by_cases h3 : r.last < sub
  · simp only [if_pos h3]
    rw [C4.get_put _ _ _ hm, C4.get_put _ _ _ hm]
    refine ⟨⟨?_, by omega⟩, trivial⟩
    intro x hx
    rcases C4.mem_put hx with h | h
    · rcases C4.mem_put h with h | h
      · exact le_passedC _ _ _ hr.1 x h
      · omega
    · omega
  · simp only [if_neg h3]
    have e : sub = r.last := by omega
    subst e
    have h4 : r.counts.get (r.last % 4) < 3 := by
      rcases Nat.lt_or_ge (r.counts.get (r.last % 4)) 3 with h | h
      · exact h
      · exact absurd ⟨rfl, h⟩ h2
    rw [C4.get_put _ _ _ hm]
    refine ⟨⟨?_, by omega⟩, rfl⟩
    intro x hx
    rcases C4.mem_put hx with h | h
    · exact hr.1 x h
    · omega

theorem putR_err (r : Rg) (sub : Nat) : (putR r sub).2 = 0 ∨ (putR r sub).2 = 6 ∨ (putR r sub).2 = 11 := by
  unfold putR; split
  · simp
  · split <;> simp

theorem follow_err (p : Pr) (f t : Nat) (a b c : H32) : (follow p f t a b c).2 = 0 ∨ (follow p f t a b c).2 = 6 ∨ (follow p f t a b c).2 = 5 := by
  unfold follow
  split
  · simp
  · simp only
    split
    · simp
    · split <;> simp

theorem right_iff (s : St) : right s = true ↔ winRight s.win = true ∧ s.win.ring.last = subOf s.slot ∧ 0 < s.length ∧ s.length - 1 ≤ s.slot ∧ s.count ≤ epochOf s.slot ∧ s.count < s.length ∧ 0 < s.epochs.next.length ∧ s.epochs.next.length ≤ s.length ∧ s.epochs.next.length - 1 ≤ placeOf s.slot := by
  unfold right
  simp only [Bool.and_eq_true, decide_eq_true_eq]
  constructor
  · rintro ⟨⟨⟨⟨⟨⟨⟨⟨h1, h2⟩, h3⟩, h4⟩, h5⟩, h6⟩, h7⟩, h8⟩, h9⟩; exact ⟨h1, h2, h3, h4, h5, h6, h7, h8, h9⟩
  · rintro ⟨h1, h2, h3, h4, h5, h6, h7, h8, h9⟩; exact ⟨⟨⟨⟨⟨⟨⟨⟨h1, h2⟩, h3⟩, h4⟩, h5⟩, h6⟩, h7⟩, h8⟩, h9⟩

theorem least_le (w : Wn) (s : Nat) : least w s ≤ w.min := by
  unfold least; simp only; split
  · omega
  · exact Nat.min_le_left _ _

theorem follow_next {p : Pr} {f t : Nat} {a b c : H32} (h : (follow p f t a b c).2 = 0) :
    (follow p f t a b c).1.next.length = if epochOf f < epochOf t then 1 else p.next.length + 1 := by
  unfold follow at h ⊢
  by_cases h1 : t ≤ f
  · rw [if_pos h1] at h; simp at h
  rw [if_neg h1] at h ⊢
  by_cases h2 : epochOf f < epochOf t
  · simp [h2]
    split <;> rfl
  · by_cases h3 : 4294967296 ≤ p.next.length + 1
    · simp [h2, h3] at h
    · simp [h2, h3]
      split <;> rfl

/-- THE PLAIN LAW OF GrowRight -/
theorem child_right {s : St} {b : Bk} (hr : right s = true) (h0 : (child s b).2 = 0) :
    right (child s b).1 = true ∧ (child s b).1.length = s.length + 1 ∧ s.length + 1 < 4294967296 ∧ s.slot < b.slot ∧ (child s b).1.slot = b.slot ∧ (child s b).1.prev = hashOf s
     ∧ (child s b).1.ledger = b.ledger ∧ (child s b).1.draw = b.draw ∧ (child s b).1.win.min ≤ s.win.min ∧ ((child s b).1.count = s.count ∨ (child s b).1.count = s.count + 1) ∧ (child s b).1.count < 4294967296 := by
  rw [right_iff] at hr
  obtain ⟨r1, r2, r3, r4, r5, r6, r7, r8, r9⟩ := hr
  unfold child at h0 ⊢
  by_cases h1 : b.slot ≤ s.slot
  · rw [if_pos h1] at h0; simp at h0
  rw [if_neg h1] at h0 ⊢
  simp only at h0 ⊢
  generalize ht : (if epochOf s.slot < epochOf b.slot then 1 else 0) = turn at h0 ⊢
  by_cases e1 : 4294967296 ≤ s.length + 1
  · simp [e1] at h0
  by_cases e2 : 4294967296 ≤ s.count + turn
  · simp [e1, e2] at h0
  by_cases e3 : (putW s.win b.slot).2 = 0
  case neg => simp [e1, e2, e3] at h0
  by_cases e4 : (follow s.epochs s.slot b.slot (hashOf s) s.ledger b.draw).2 = 0
  case neg => simp [e1, e2, e3, e4] at h0
  simp only [e1, e2, e3, e4, if_false, ne_eq, not_true, ite_self]
  have hw := follow_next e4
  unfold winRight at r1
  simp only [Bool.and_eq_true, decide_eq_true_eq] at r1
  have e5 : (putR s.win.ring (subOf b.slot)).2 = 0 := by
    unfold putW at e3; simp only at e3
    by_cases h : (putR s.win.ring (subOf b.slot)).2 = 0
    · exact h
    · simp [h] at e3
  obtain ⟨p1, p2⟩ := putR_right r1.2 e5
  have hwin : (putW s.win b.slot).1 = ⟨least s.win b.slot, (putR s.win.ring (subOf b.slot)).1⟩ := by
    unfold putW; simp [e5]
  have hle := least_le s.win b.slot
  refine ⟨?_, by simp, by omega, by omega, by simp, by simp, by simp, by simp, ?_, ?_, by omega⟩
  · rw [right_iff]
    simp only [hwin, hw]
    unfold winRight
    simp only [Bool.and_eq_true, decide_eq_true_eq]
    unfold epochOf placeOf at *
    refine ⟨⟨by omega, p1⟩, p2, by omega, by omega, ?_, ?_, ?_, ?_, ?_⟩
    · by_cases h : s.slot / 24 < b.slot / 24 <;> simp only [h, if_true, if_false] at ht <;> omega
    · by_cases h : s.slot / 24 < b.slot / 24 <;> simp only [h, if_true, if_false] at ht <;> omega
    · by_cases h : s.slot / 24 < b.slot / 24 <;> simp only [h, if_true, if_false] <;> omega
    · by_cases h : s.slot / 24 < b.slot / 24 <;> simp only [h, if_true, if_false] <;> omega
    · by_cases h : s.slot / 24 < b.slot / 24 <;> simp only [h, if_true, if_false] <;> omega
  · rw [hwin]; exact hle
  · by_cases h : epochOf s.slot < epochOf b.slot <;> simp only [h, if_true, if_false] at ht <;> omega

theorem child_err {s : St} {b : Bk} (h0 : (child s b).2 ≠ 0) : (child s b).1 = state0 ∧ ((child s b).2 = 6 ∨ (child s b).2 = 5 ∨ (child s b).2 = 11) := by
  unfold child at h0 ⊢
  by_cases h1 : b.slot ≤ s.slot
  · rw [if_pos h1]; simp
  rw [if_neg h1] at h0 ⊢
  simp only at h0 ⊢
  generalize ht : (if epochOf s.slot < epochOf b.slot then 1 else 0) = turn at h0 ⊢
  have hp : (putW s.win b.slot).2 = 0 ∨ (putW s.win b.slot).2 = 6 ∨ (putW s.win b.slot).2 = 11 := by
    have := putR_err s.win.ring (subOf b.slot)
    unfold putW; simp only
    split
    · exact this
    · simp
  have hf := follow_err s.epochs s.slot b.slot (hashOf s) s.ledger b.draw
  generalize (putW s.win b.slot).2 = x at *
  generalize (follow s.epochs s.slot b.slot (hashOf s) s.ledger b.draw).2 = y at *
  by_cases e1 : 4294967296 ≤ s.length + 1
  · simp [e1]
  by_cases e2 : 4294967296 ≤ s.count + turn
  · simp [e1, e2]
  by_cases e3 : x = 0
  · by_cases e4 : y = 0
    · simp [e1, e2, e3, e4] at h0
    · simp [e1, e2, e3, e4]; omega
  · simp [e1, e2, e3]; omega
end Go.Alm

/- THE PLAIN LAW OF THE CHOICE BETWEEN STATES. -/
set_option linter.unusedSimpArgs false
namespace Go.Alm

/-! order -/
def cmpN (a b : Nat) : Int := if a < b then -1 else if b < a then 1 else 0
def cmpL : List Nat → List Nat → Int
  | [], [] => 0
  | [], _ :: _ => -1
  | _ :: _, [] => 1
  | a :: l, b :: m => if cmpN a b ≠ 0 then cmpN a b else cmpL l m



def keyOf (s : St) : Ky := ⟨s.length, s.draw, hashOf s⟩
def compareK (a b : Ky) : Int :=
  if cmpN a.length b.length ≠ 0 then cmpN a.length b.length
  else if cmpL a.draw.l b.draw.l ≠ 0 then cmpL a.draw.l b.draw.l
  else cmpL a.hash.l b.hash.l

theorem cmpN_anti (a b : Nat) : cmpN b a = - cmpN a b := by unfold cmpN; (repeat' split) <;> omega
theorem cmpN_eq (a b : Nat) : cmpN a b = 0 ↔ a = b := by unfold cmpN; (repeat' split) <;> omega
theorem cmpN_val (a b : Nat) : cmpN a b = -1 ∨ cmpN a b = 0 ∨ cmpN a b = 1 := by unfold cmpN; (repeat' split) <;> omega
theorem cmpN_trans {a b c : Nat} (h : cmpN a b ≤ 0) (k : cmpN b c ≤ 0) : cmpN a c ≤ 0 := by unfold cmpN at *; (repeat' split at h) <;> (repeat' split at k) <;> (repeat' split) <;> omega

theorem cmpL_anti : ∀ l m, cmpL m l = - cmpL l m
  | [], [] => rfl
  | [], _ :: _ => rfl
  | _ :: _, [] => rfl
  | a :: l, b :: m => by
    simp only [cmpL]
    have h := cmpN_anti a b
    have ih := cmpL_anti l m
    by_cases e : cmpN a b = 0
    · have e2 : cmpN b a = 0 := by omega
      simp [e, e2, ih]
    · have e2 : ¬ cmpN b a = 0 := by omega
      simp [e, e2, h]

theorem cmpL_eq : ∀ l m, cmpL l m = 0 ↔ l = m
  | [], [] => by simp [cmpL]
  | [], _ :: _ => by simp [cmpL]
  | _ :: _, [] => by simp [cmpL]
  | a :: l, b :: m => by
    simp only [cmpL]
    have ih := cmpL_eq l m
    have h := cmpN_eq a b
    by_cases e : cmpN a b = 0
    · obtain rfl := h.1 e
      simp [e, ih]
    · have : a ≠ b := fun k => e (h.2 k)
      simp [e, this]

theorem cmpL_trans : ∀ l m n, cmpL l m ≤ 0 → cmpL m n ≤ 0 → cmpL l n ≤ 0
  | [], _, [] => fun _ _ => by simp [cmpL]
  | [], _, _ :: _ => fun _ _ => by simp [cmpL]
  | _ :: _, [], _ => fun h _ => by simp [cmpL] at h
  | _ :: _, _ :: _, [] => fun _ h => by simp [cmpL] at h
  | a :: l, b :: m, c :: n => fun h k => by
    have ih := cmpL_trans l m n
    simp only [cmpL] at h k ⊢
    have e1 := cmpN_eq a b
    have e2 := cmpN_eq b c
    have e3 := cmpN_eq a c
    have t := @cmpN_trans a b c
    by_cases h1 : cmpN a b = 0
    · have := e1.1 h1
      subst this
      by_cases h2 : cmpN a c = 0
      · simp only [h1, h2, ne_eq, not_true, if_false] at h k ⊢
        exact ih h k
      · simp only [h1, h2, ne_eq, not_true, not_false_eq_true, if_true, if_false] at h k ⊢
        exact k
    · simp only [h1, ne_eq, not_false_eq_true, if_true] at h
      by_cases h2 : cmpN b c = 0
      · have := e2.1 h2
        subst this
        simp only [h1, ne_eq, not_false_eq_true, if_true]
        exact h
      · simp only [h2, ne_eq, not_false_eq_true, if_true] at k
        have h3 : ¬ cmpN a c = 0 := by
          intro e
          have := e3.1 e
          subst this
          have := cmpN_anti a b
          omega
        simp only [h3, ne_eq, not_false_eq_true, if_true]
        exact t h k

theorem compareK_anti (a b : Ky) : compareK b a = - compareK a b := by
  unfold compareK
  have h1 := cmpN_anti a.length b.length
  have h2 := cmpL_anti a.draw.l b.draw.l
  have h3 := cmpL_anti a.hash.l b.hash.l
  (repeat' split) <;> omega

theorem compareK_eq (a b : Ky) : compareK a b = 0 ↔ a = b := by
  unfold compareK
  have h1 := cmpN_eq a.length b.length
  have h2 := cmpL_eq a.draw.l b.draw.l
  have h3 := cmpL_eq a.hash.l b.hash.l
  constructor
  · intro h
    by_cases e1 : cmpN a.length b.length = 0
    · by_cases e2 : cmpL a.draw.l b.draw.l = 0
      · simp [e1, e2] at h
        cases a; cases b
        simp only [Ky.mk.injEq]
        exact ⟨h1.1 e1, H32.ext (h2.1 e2), H32.ext (h3.1 h)⟩
      · simp [e1, e2] at h
    · simp [e1] at h
  · rintro rfl
    simp [h1, h2, h3]

theorem compareK_trans {a b c : Ky} (h : compareK a b ≤ 0) (k : compareK b c ≤ 0) : compareK a c ≤ 0 := by
  unfold compareK at *
  have a1 := cmpN_eq a.length b.length
  have a2 := cmpN_eq b.length c.length
  have a3 := cmpN_eq a.length c.length
  have a4 := @cmpN_trans a.length b.length c.length
  have a5 := cmpN_anti a.length b.length
  have b1 := cmpL_eq a.draw.l b.draw.l
  have b2 := cmpL_eq b.draw.l c.draw.l
  have b3 := cmpL_eq a.draw.l c.draw.l
  have b4 := cmpL_trans a.draw.l b.draw.l c.draw.l
  have b5 := cmpL_anti a.draw.l b.draw.l
  have c4 := cmpL_trans a.hash.l b.hash.l c.hash.l
  by_cases e1 : a.length = b.length
  · by_cases e2 : b.length = c.length
    · have e3 : a.length = c.length := e1.trans e2
      simp only [a1.2 e1, a2.2 e2, a3.2 e3, ne_eq, not_true, if_false] at h k ⊢
      by_cases f1 : a.draw.l = b.draw.l
      · by_cases f2 : b.draw.l = c.draw.l
        · have f3 := f1.trans f2
          simp only [b1.2 f1, b2.2 f2, b3.2 f3, ne_eq, not_true, if_false] at h k ⊢
          exact c4 h k
        · rw [← f1] at k f2
          have g : ¬ cmpL a.draw.l c.draw.l = 0 := fun e => f2 (b3.1 e)
          simp only [g, ne_eq, not_false_eq_true, if_true] at k ⊢
          exact k
      · have g1 : ¬ cmpL a.draw.l b.draw.l = 0 := fun e => f1 (b1.1 e)
        simp only [g1, ne_eq, not_false_eq_true, if_true] at h
        by_cases f2 : b.draw.l = c.draw.l
        · rw [← f2]; simp only [g1, ne_eq, not_false_eq_true, if_true]; exact h
        · have g2 : ¬ cmpL b.draw.l c.draw.l = 0 := fun e => f2 (b2.1 e)
          simp only [g2, ne_eq, not_false_eq_true, if_true] at k
          have g3 : ¬ cmpL a.draw.l c.draw.l = 0 := by
            intro e
            have e' := b3.1 e
            rw [← e'] at k
            omega
          simp only [g3, ne_eq, not_false_eq_true, if_true]
          exact b4 h k
    · rw [← e1] at k e2
      have g : ¬ cmpN a.length c.length = 0 := fun e => e2 (a3.1 e)
      simp only [g, ne_eq, not_false_eq_true, if_true] at k ⊢
      exact k
  · have g1 : ¬ cmpN a.length b.length = 0 := fun e => e1 (a1.1 e)
    simp only [g1, ne_eq, not_false_eq_true, if_true] at h
    by_cases e2 : b.length = c.length
    · rw [← e2]; simp only [g1, ne_eq, not_false_eq_true, if_true]; exact h
    · have g2 : ¬ cmpN b.length c.length = 0 := fun e => e2 (a2.1 e)
      simp only [g2, ne_eq, not_false_eq_true, if_true] at k
      have g3 : ¬ cmpN a.length c.length = 0 := by
        intro e
        have e' := a3.1 e
        rw [← e'] at k
        omega
      simp only [g3, ne_eq, not_false_eq_true, if_true]
      exact a4 h k

/-- the place of the greatest key: the program's loop -/
def greatestFrom : List Ky → Nat → List Ky → Int → Int
  | _, _, [], at_ => at_
  | all, i, k :: l, at_ => greatestFrom all (i+1) l (if at_ < 0 ∨ compareK k (all.getD at_.toNat ⟨0, zeroH, zeroH⟩) > 0 then i else at_)
def greatest (l : List Ky) : Int := greatestFrom l 0 l (-1)

/-! choose -/
def behind (a b : St) : Bool :=
  decide (epochOf a.slot < epochOf b.slot) && decide (epochOf b.slot - epochOf a.slot = 1) && !locking a.slot && decide (b.epochs.now.lock = a.epochs.next.lock)
def beside (a b : St) : Bool := decide (epochOf a.slot = epochOf b.slot) && decide (a.epochs.now.lock = b.epochs.now.lock)
def near (a b : St) : Bool := beside a b || behind a b || behind b a
def densities (a b : St) : Nat × Nat := let s := max a.slot b.slot; (least a.win s, least b.win s)
def wins (tip c : St) : Bool :=
  let d := densities tip c
  if near tip c = false ∧ d.1 ≠ d.2 then decide (d.1 < d.2) else decide (compareK (keyOf c) (keyOf tip) > 0)
def foldT : St → List St → Nat → St × Nat
  | t, [], n => (t, n)
  | t, s :: l, n => if wins t s then foldT s l (n+1) else foldT t l n

theorem near_symm (a b : St) : near a b = near b a := by
  unfold near beside
  have h1 : decide (epochOf a.slot = epochOf b.slot) = decide (epochOf b.slot = epochOf a.slot) := by simp [eq_comm]
  have h2 : decide (a.epochs.now.lock = b.epochs.now.lock) = decide (b.epochs.now.lock = a.epochs.now.lock) := by simp [eq_comm]
  rw [h1, h2, Bool.or_assoc, Bool.or_assoc, Bool.or_comm (behind a b)]
theorem near_self (a : St) : near a a = true := by simp [near, beside]
theorem densities_symm (a b : St) : densities a b = ((densities b a).2, (densities b a).1) := by
  unfold densities; simp only [Nat.max_comm]
theorem wins_self (a : St) : wins a a = false := by
  unfold wins
  have := (compareK_eq (keyOf a) (keyOf a)).2 rfl
  simp [near_self, this]
theorem wins_not_both {a b : St} (h : wins a b = true) : wins b a = false := by
  unfold wins at *
  rw [densities_symm b a, near_symm b a]
  simp only at *
  have hc := compareK_anti (keyOf a) (keyOf b)
  by_cases e : near a b = false ∧ (densities a b).1 ≠ (densities a b).2
  · have e2 : near a b = false ∧ (densities a b).2 ≠ (densities a b).1 := ⟨e.1, fun h => e.2 h.symm⟩
    rw [if_pos e] at h
    rw [if_pos e2]
    simp at h ⊢
    omega
  · have e2 : ¬ (near a b = false ∧ (densities a b).2 ≠ (densities a b).1) := fun k => e ⟨k.1, fun h => k.2 h.symm⟩
    rw [if_neg e] at h
    rw [if_neg e2]
    simp at h ⊢
    omega
theorem wins_one {a b : St} (h : hashOf a ≠ hashOf b) : wins a b = true ∨ wins b a = true := by
  unfold wins at *
  rw [densities_symm b a, near_symm b a]
  simp only at *
  have hc := compareK_anti (keyOf a) (keyOf b)
  have he := compareK_eq (keyOf a) (keyOf b)
  have hne : compareK (keyOf a) (keyOf b) ≠ 0 := fun k => h (by have := he.1 k; exact congrArg Ky.hash this)
  by_cases e : near a b = false ∧ (densities a b).1 ≠ (densities a b).2
  · have e2 : near a b = false ∧ (densities a b).2 ≠ (densities a b).1 := ⟨e.1, fun h => e.2 h.symm⟩
    rw [if_pos e, if_pos e2]
    simp
    omega
  · have e2 : ¬ (near a b = false ∧ (densities a b).2 ≠ (densities a b).1) := fun k => e ⟨k.1, fun h => k.2 h.symm⟩
    rw [if_neg e, if_neg e2]
    simp
    omega
theorem foldT_append (t : St) (l m : List St) (n : Nat) : foldT t (l ++ m) n = foldT (foldT t l n).1 m (foldT t l n).2 := by
  induction l generalizing t n with
  | nil => rfl
  | cons s l ih => simp only [List.cons_append, foldT]; split <;> exact ih _ _
end Go.Alm

/- NUMBERS STAY IN 32 BITS: a child's, a chain's. -/
set_option linter.unusedVariables false
namespace Go.Alm
theorem lt_passedC (last : Nat) (cs : C4) (sub : Nat) (h : ∀ x ∈ cs.l, x < 4294967296) : ∀ x ∈ (passedC last cs sub).l, x < 4294967296 := by
  unfold passedC
  have key : ∀ (l : List Nat) (c : C4), (∀ x ∈ c.l, x < 4294967296) → ∀ x ∈ (l.foldl (fun c i => c.put ((last % 4 + 1 + i) % 4) 0) c).l, x < 4294967296 := by
    intro l
    induction l with
    | nil => intro c h; exact h
    | cons x l ih =>
      intro c h
      refine ih _ ?_
      intro y hy
      rcases C4.mem_put hy with h1 | h1
      · exact h y h1
      · omega
  refine key _ _ ?_
  split
  · intro x hx; simp [zeroC] at hx; omega
  · exact h
theorem putR_wf {r : Rg} {sub : Nat} (h : r.Wf) (hs : sub < 4294967296) : (putR r sub).1.Wf := by
  have h0 : ring0.Wf := ⟨by decide, by intro x hx; simp [ring0, zeroC] at hx; omega⟩
  unfold putR
  split
  · exact h0
  split
  · exact h0
  have hc : ∀ x ∈ (if r.last < sub then (⟨sub, (passedC r.last r.counts sub).put (sub % 4) 0⟩ : Rg) else r).counts.l, x < 4294967296 := by
    split
    · intro x hx
      rcases C4.mem_put hx with h1 | h1
      · exact lt_passedC _ _ _ h.counts x h1
      · omega
    · exact h.counts
  refine ⟨?_, ?_⟩
  · simp only; split
    · exact hs
    · exact h.last
  · intro x hx
    rcases C4.mem_put hx with h1 | h1
    · exact hc x h1
    · rw [h1]; exact Nat.mod_lt _ (by omega)
theorem putW_wf {w : Wn} {s : Nat} (h : w.Wf) (hs : s < 4294967296) : (putW w s).1.Wf := by
  have hsub : subOf s < 4294967296 := by unfold subOf; omega
  unfold putW
  simp only
  split
  · exact ⟨by show 0 < 4294967296; omega, by show 0 < 4294967296; omega, by intro x hx; simp [win0, ring0, zeroC] at hx; omega⟩
  · exact ⟨Nat.lt_of_le_of_lt (least_le w s) h.min, putR_wf h.ring hsub⟩
theorem follow_lt {p : Pr} {f t : Nat} {a b c : H32} (h1 : p.now.length < 4294967296) (h2 : p.next.length < 4294967296) : (Go.Alm.follow p f t a b c).1.now.length < 4294967296 ∧ (Go.Alm.follow p f t a b c).1.next.length < 4294967296 := by
  unfold Go.Alm.follow
  by_cases q1 : t ≤ f
  · rw [if_pos q1]; exact ⟨by decide, by decide⟩
  rw [if_neg q1]
  by_cases q2 : epochOf f < epochOf t
  · simp [q2]
    split <;> exact ⟨h2, by show 1 < 4294967296; omega⟩
  · by_cases q3 : 4294967296 ≤ p.next.length + 1
    · simp [q2, q3, pair0, data0]
    · simp [q2, q3]
      split <;> exact ⟨h1, by show p.next.length + 1 < 4294967296; omega⟩
theorem state0_wf : state0.Wf := ⟨by decide, by decide, by decide, ⟨by decide, by decide, by intro x hx; simp [state0, win0, ring0, zeroC] at hx; omega⟩, by decide, by decide⟩
theorem child_wf {s : St} {b : Bk} (h : s.Wf) (hb : b.slot < 4294967296) : (child s b).1.Wf := by
  unfold child
  by_cases q1 : b.slot ≤ s.slot
  · rw [if_pos q1]; exact state0_wf
  rw [if_neg q1]
  simp only
  generalize (if epochOf s.slot < epochOf b.slot then 1 else 0) = tn
  by_cases q2 : 4294967296 ≤ s.length + 1
  · simp only [q2, if_true]; exact state0_wf
  by_cases q3 : 4294967296 ≤ s.count + tn
  · simp only [q2, q3, if_true, if_false]; exact state0_wf
  simp only [q2, q3, if_false]
  have := follow_lt (f := s.slot) (t := b.slot) (a := hashOf s) (b := s.ledger) (c := b.draw) h.now h.next
  have hg : St.Wf ⟨hashOf s, b.ledger, b.draw, b.slot, s.length + 1, s.count + tn, (putW s.win b.slot).1, (Go.Alm.follow s.epochs s.slot b.slot (hashOf s) s.ledger b.draw).1⟩ :=
    ⟨hb, by show s.length + 1 < 4294967296; omega, by show s.count + tn < 4294967296; omega, putW_wf h.win hb, this.1, this.2⟩
  by_cases q4 : (putW s.win b.slot).2 = 0
  · by_cases q5 : (Go.Alm.follow s.epochs s.slot b.slot (hashOf s) s.ledger b.draw).2 = 0
    · simp only [q4, q5, ne_eq, not_true, if_false]; exact hg
    · simp only [q4, q5, ne_eq, not_true, not_false_eq_true, if_false, if_true]; exact state0_wf
  · simp only [q4, ne_eq, not_false_eq_true, if_true]; exact state0_wf
theorem genesis_wf (h : H32) : (genesis h).Wf := ⟨by show 0 < 4294967296; omega, by show 1 < 4294967296; omega, by show 0 < 4294967296; omega, ⟨by show 12 < 4294967296; omega, by show 0 < 4294967296; omega, by intro x hx; simp [genesis, winGenesis, ringGenesis] at hx; omega⟩, by show 1 < 4294967296; omega, by show 1 < 4294967296; omega⟩
end Go.Alm

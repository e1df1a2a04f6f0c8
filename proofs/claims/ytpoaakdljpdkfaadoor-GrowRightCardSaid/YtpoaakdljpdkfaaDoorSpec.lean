/- WHAT THE PROGRAM COMPUTES, AS PLAIN LEAN FUNCTIONS. -/
import Derived.Test.YtpoaakdljpdkfaaDoorSha
namespace Go.Alm

/-! numbers -/
def epochOf (s : Nat) : Nat := s / 24
def placeOf (s : Nat) : Nat := s % 24
def locking (s : Nat) : Bool := decide (placeOf s < 16)
def subOf (s : Nat) : Nat := s / 3

/-- four numbers -/
structure C4 where
  l : List Nat
  len : l.length = 4
deriving DecidableEq

structure Rg where
  last : Nat
  counts : C4
deriving DecidableEq

structure Wn where
  min : Nat
  ring : Rg
deriving DecidableEq

structure Dt where
  ledger : H32
  seed : H32
  start : H32
  lock : H32
  length : Nat
deriving DecidableEq

structure Pr where
  now : Dt
  next : Dt
deriving DecidableEq

structure St where
  prev : H32
  ledger : H32
  draw : H32
  slot : Nat
  length : Nat
  count : Nat
  win : Wn
  epochs : Pr
deriving DecidableEq

def zeroH : H32 := ⟨List.replicate 32 0, by simp, fun x h => by rw [List.eq_of_mem_replicate h]; omega⟩
def zeroC : C4 := ⟨[0, 0, 0, 0], rfl⟩
def ring0 : Rg := ⟨0, zeroC⟩
def win0 : Wn := ⟨0, ring0⟩
def data0 : Dt := ⟨zeroH, zeroH, zeroH, zeroH, 0⟩
def pair0 : Pr := ⟨data0, data0⟩
def state0 : St := ⟨zeroH, zeroH, zeroH, 0, 0, 0, win0, pair0⟩

/-! ring -/
def C4.get (c : C4) (i : Nat) : Nat := c.l.getD i 0
def C4.put (c : C4) (i v : Nat) : C4 := ⟨c.l.set i v, by rw [List.length_set]; exact c.len⟩
def ringGenesis : Rg := ⟨0, ⟨[1, 3, 3, 3], rfl⟩⟩
def ringRight (r : Rg) : Bool := r.counts.l.all (· ≤ 3) && (r.counts != zeroC) && decide (0 < r.counts.get (r.last % 4))
def sum4 (l : C4) : Nat := l.l.foldl (fun a b => (a + b) % 4294967296) 0
/-- the counts when a later sub-window comes -/
def passedC (last : Nat) (cs : C4) (sub : Nat) : C4 :=
  let gone := sub - last - 1
  let cs := if 4 ≤ gone then zeroC else cs
  (List.range (min gone 4)).foldl (fun c i => c.put ((last % 4 + 1 + i) % 4) 0) cs
def beforeR (r : Rg) (sub : Nat) : Nat × Nat := if sub ≤ r.last then (0, 6) else (sum4 (passedC r.last r.counts sub), 0)
def putR (r : Rg) (sub : Nat) : Rg × Nat :=
  if sub < r.last then (ring0, 6)
  else if sub = r.last ∧ 3 ≤ r.counts.get (sub % 4) then (ring0, 11)
  else
    let r := if r.last < sub then ⟨sub, (passedC r.last r.counts sub).put (sub % 4) 0⟩ else r
    (⟨r.last, r.counts.put (sub % 4) ((r.counts.get (sub % 4) + 1) % 4294967296)⟩, 0)

/-! window -/
def winGenesis : Wn := ⟨12, ringGenesis⟩
def winRight (w : Wn) : Bool := decide (w.min ≤ 12) && ringRight w.ring
def least (w : Wn) (s : Nat) : Nat := let b := beforeR w.ring (subOf s); if s < 12 ∨ b.2 ≠ 0 then w.min else min w.min b.1
def putW (w : Wn) (s : Nat) : Wn × Nat := let p := putR w.ring (subOf s); if p.2 ≠ 0 then (win0, p.2) else (⟨least w s, p.1⟩, 0)

/-! tag -/
def be (n k : Nat) : List Nat := (List.range k).map fun i => n / 256 ^ (k - 1 - i) % 256
def image (name : List Nat) (parts : List (List Nat)) : List Nat := [name.length] ++ name ++ [parts.length] ++ parts.flatMap fun p => be p.length 4 ++ p
def tagOf (name : List Nat) (parts : List (List Nat)) : H32 := sha (image name parts)

def seedName : List Nat := [115, 101, 101, 100]
def stateName : List Nat := [115, 116, 97, 116, 101]

/-! epoch -/
def firstP (ledger : H32) : Pr := let d : Dt := ⟨ledger, zeroH, zeroH, zeroH, 1⟩; ⟨d, d⟩
def follow (p : Pr) (frm to : Nat) (prev ledger draw : H32) : Pr × Nat :=
  if to ≤ frm then (pair0, 6)
  else
    let turns := decide (epochOf frm < epochOf to)
    if turns = false ∧ 4294967296 ≤ p.next.length + 1 then (pair0, 5)
    else
      let q : Pr := if turns then ⟨p.next, ⟨ledger, p.next.seed, prev, zeroH, 1⟩⟩ else ⟨p.now, { p.next with length := p.next.length + 1 }⟩
      if locking to then (⟨q.now, { q.next with seed := tagOf seedName [q.next.seed.l, draw.l], lock := prev }⟩, 0) else (q, 0)

/-! state -/
def genesis (ledger : H32) : St := ⟨zeroH, ledger, zeroH, 0, 1, 0, winGenesis, firstP ledger⟩
def right (s : St) : Bool :=
  winRight s.win && decide (s.win.ring.last = subOf s.slot) && decide (0 < s.length) && decide (s.length - 1 ≤ s.slot) && decide (s.count ≤ epochOf s.slot) && decide (s.count < s.length)
    && decide (0 < s.epochs.next.length) && decide (s.epochs.next.length ≤ s.length) && decide (s.epochs.next.length - 1 ≤ placeOf s.slot)
def dataBytes (d : Dt) : List Nat := d.ledger.l ++ d.seed.l ++ d.start.l ++ d.lock.l ++ be d.length 4
def bytesOf (s : St) : List Nat :=
  s.prev.l ++ s.ledger.l ++ s.draw.l ++ be s.slot 4 ++ be s.length 4 ++ be s.count 4 ++ be s.win.min 4 ++ be s.win.ring.last 4
   ++ s.win.ring.counts.l.flatMap (be · 4) ++ dataBytes s.epochs.now ++ dataBytes s.epochs.next
def hashOf (s : St) : H32 := tagOf stateName [bytesOf s]

/-! grow -/
structure Bk where
  slot : Nat
  ledger : H32
  draw : H32
deriving DecidableEq

def child (s : St) (b : Bk) : St × Nat :=
  if b.slot ≤ s.slot then (state0, 6)
  else
    let turn := if epochOf s.slot < epochOf b.slot then 1 else 0
    let prev := hashOf s
    let w := putW s.win b.slot
    let p := follow s.epochs s.slot b.slot prev s.ledger b.draw
    let e := if 4294967296 ≤ s.length + 1 then 5 else if 4294967296 ≤ s.count + turn then 5 else if w.2 ≠ 0 then w.2 else p.2
    if e ≠ 0 then (state0, e) else (⟨prev, b.ledger, b.draw, b.slot, s.length + 1, s.count + turn, w.1, p.1⟩, 0)

def chainFrom : St → List Bk → Nat → St × Nat × Nat
  | s, [], i => (s, i, 0)
  | s, b :: l, i => let c := child s b; if c.2 ≠ 0 then (s, i, c.2) else chainFrom c.1 l (i + 1)
def chain (ledger : H32) (l : List Bk) : St × Nat × Nat := chainFrom (genesis ledger) l 0

/-- what epoch.Follow takes; a window and a slot; two states -/
structure Eb where
  frm : Nat
  to : Nat
  prev : H32
  ledger : H32
  draw : H32
deriving DecidableEq
structure Cm where
  win : Wn
  slot : Nat
deriving DecidableEq
structure Pt where
  a : St
  b : St
deriving DecidableEq
structure Ky where
  length : Nat
  draw : H32
  hash : H32
deriving DecidableEq
def block0 : Bk := ⟨0, zeroH, zeroH⟩
def eblock0 : Eb := ⟨0, 0, zeroH, zeroH, zeroH⟩
def coming0 : Cm := ⟨win0, 0⟩
def pt0 : Pt := ⟨state0, state0⟩
def key0 : Ky := ⟨0, zeroH, zeroH⟩
end Go.Alm

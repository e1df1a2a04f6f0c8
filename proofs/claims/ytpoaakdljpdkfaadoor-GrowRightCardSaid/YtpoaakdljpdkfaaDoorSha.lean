/- SHA-256 AS A PLAIN FUNCTION ON LISTS OF NUMBERS. -/
namespace Go.Alm

def m32 : Nat := 4294967296

/-- bits turned to the right -/
def rotr (x k : Nat) : Nat := (x / 2 ^ k) ||| (x * 2 ^ (32 - k) % 4294967296)

def sig (x a b c : Nat) : Nat := (rotr x a ^^^ rotr x b) ^^^ rotr x c
def shf (x a b c : Nat) : Nat := (rotr x a ^^^ rotr x b) ^^^ (x / 2 ^ c)

def keys : List Nat := [
  0x428a2f98, 0x71374491, 0xb5c0fbcf, 0xe9b5dba5, 0x3956c25b, 0x59f111f1, 0x923f82a4, 0xab1c5ed5,
  0xd807aa98, 0x12835b01, 0x243185be, 0x550c7dc3, 0x72be5d74, 0x80deb1fe, 0x9bdc06a7, 0xc19bf174,
  0xe49b69c1, 0xefbe4786, 0x0fc19dc6, 0x240ca1cc, 0x2de92c6f, 0x4a7484aa, 0x5cb0a9dc, 0x76f988da,
  0x983e5152, 0xa831c66d, 0xb00327c8, 0xbf597fc7, 0xc6e00bf3, 0xd5a79147, 0x06ca6351, 0x14292967,
  0x27b70a85, 0x2e1b2138, 0x4d2c6dfc, 0x53380d13, 0x650a7354, 0x766a0abb, 0x81c2c92e, 0x92722c85,
  0xa2bfe8a1, 0xa81a664b, 0xc24b8b70, 0xc76c51a3, 0xd192e819, 0xd6990624, 0xf40e3585, 0x106aa070,
  0x19a4c116, 0x1e376c08, 0x2748774c, 0x34b0bcb5, 0x391c0cb3, 0x4ed8aa4a, 0x5b9cca4f, 0x682e6ff3,
  0x748f82ee, 0x78a5636f, 0x84c87814, 0x8cc70208, 0x90befffa, 0xa4506ceb, 0xbef9a3f7, 0xc67178f2]

def iv : List Nat := [0x6a09e667, 0xbb67ae85, 0x3c6ef372, 0xa54ff53a, 0x510e527f, 0x9b05688c, 0x1f83d9ab, 0x5be0cd19]

/-- a number of four bytes -/
def be4 (a b c d : Nat) : Nat := ((a * 256 + b) * 256 + c) * 256 + d

/-- the first t numbers w of a block (t at most 16) -/
def words (b : List Nat) (t : Nat) : List Nat := (List.range t).map fun i => be4 (b.getD (4*i) 0) (b.getD (4*i+1) 0) (b.getD (4*i+2) 0) (b.getD (4*i+3) 0)

def nextW (w : List Nat) : Nat :=
  let t := w.length
  (((shf (w.getD (t-2) 0) 17 19 10 + w.getD (t-7) 0) % 4294967296 + shf (w.getD (t-15) 0) 7 18 3) % 4294967296 + w.getD (t-16) 0) % 4294967296

def moreW : Nat → List Nat → List Nat
  | 0, w => w
  | n+1, w => let w' := moreW n w; w' ++ [nextW w']

def sched (b : List Nat) : List Nat := moreW 48 (words b 16)

def roundS (s : List Nat) (k w : Nat) : List Nat :=
  match s with
  | [a, b, c, d, e, f, g, h] =>
    let choice := (e &&& f) ^^^ ((4294967295 - e) &&& g)
    let one := ((((h + sig e 6 11 25) % 4294967296 + choice) % 4294967296 + k) % 4294967296 + w) % 4294967296
    let two := (sig a 2 13 22 + (((a &&& b) ^^^ (a &&& c)) ^^^ (b &&& c))) % 4294967296
    [(one + two) % 4294967296, a, b, c, (d + one) % 4294967296, e, f, g]
  | s => s

def rounds (s : List Nat) (kw : List (Nat × Nat)) : List Nat := kw.foldl (fun s p => roundS s p.1 p.2) s

def mix (s : List Nat) (b : List Nat) : List Nat :=
  List.zipWith (fun x y => (x + y) % 4294967296) s (rounds s (keys.zip (sched b)))

/-- all whole blocks, n of them -/
def mixes : Nat → List Nat → List Nat → List Nat
  | 0, s, _ => s
  | n+1, s, b => mixes n (mix s (b.take 64)) (b.drop 64)

def pad (n : Nat) : List Nat := [128] ++ List.replicate ((119 - n % 64) % 64) 0 ++ (List.range 8).map fun i => n * 8 / 256 ^ (7 - i) % 256

def outB (s : List Nat) : List Nat := s.flatMap fun x => [x / 16777216 % 256, x / 65536 % 256, x / 256 % 256, x % 256]


theorem length_roundS (s : List Nat) (k w : Nat) (h : s.length = 8) : (roundS s k w).length = 8 := by
  match s, h with
  | [a, b, c, d, e, f, g, i], _ => rfl

theorem length_rounds (s : List Nat) (kw : List (Nat × Nat)) (h : s.length = 8) : (rounds s kw).length = 8 := by
  unfold rounds
  induction kw generalizing s with
  | nil => exact h
  | cons p kw ih => exact ih _ (length_roundS s _ _ h)

theorem length_mix (s b : List Nat) (h : s.length = 8) : (mix s b).length = 8 := by
  unfold mix
  rw [List.length_zipWith, length_rounds _ _ h, h]; rfl

theorem length_mixes (n : Nat) (s b : List Nat) (h : s.length = 8) : (mixes n s b).length = 8 := by
  induction n generalizing s b with
  | zero => exact h
  | succ n ih => exact ih _ _ (length_mix s _ h)

theorem length_outB (s : List Nat) : (outB s).length = s.length * 4 := by
  unfold outB
  induction s with
  | nil => rfl
  | cons x s ih => simp only [List.flatMap_cons, List.length_append, ih, List.length_cons, List.length_nil]; omega

theorem lt_outB (s : List Nat) (x : Nat) (h : x ∈ outB s) : x < 256 := by
  unfold outB at h
  rw [List.mem_flatMap] at h
  obtain ⟨y, _, h⟩ := h
  simp only [List.mem_cons, List.not_mem_nil, or_false] at h
  rcases h with h | h | h | h <;> subst h <;> exact Nat.mod_lt _ (by omega)

/-- 32 numbers below 256 -/
structure H32 where
  l : List Nat
  len : l.length = 32
  lt : ∀ x ∈ l, x < 256

theorem H32.ext {a b : H32} (h : a.l = b.l) : a = b := by cases a; cases b; simp at h; subst h; rfl
instance : DecidableEq H32 := fun a b => decidable_of_iff (a.l = b.l) ⟨H32.ext, fun h => by rw [h]⟩

def shaL (b : List Nat) : List Nat := let p := b ++ pad b.length; outB (mixes (p.length / 64) iv p)
def sha (b : List Nat) : H32 := ⟨shaL b, by
  unfold shaL
  rw [length_outB, length_mixes _ _ _ rfl], fun x h => lt_outB _ x h⟩

end Go.Alm

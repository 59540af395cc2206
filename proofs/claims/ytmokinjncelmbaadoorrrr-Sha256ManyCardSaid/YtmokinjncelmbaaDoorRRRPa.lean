/- SHA-256 over lists of bytes, as plain functions, and the laws on them that the walks want: no condition, no program. -/
namespace Go.Sha

def rotr (m : Nat) (x : BitVec 32) : BitVec 32 := x >>> m ||| x <<< (32 - m)

def K : List (BitVec 32) := [0x428a2f98, 0x71374491, 0xb5c0fbcf, 0xe9b5dba5, 0x3956c25b, 0x59f111f1, 0x923f82a4, 0xab1c5ed5, 0xd807aa98, 0x12835b01, 0x243185be, 0x550c7dc3, 0x72be5d74, 0x80deb1fe, 0x9bdc06a7, 0xc19bf174, 0xe49b69c1, 0xefbe4786, 0x0fc19dc6, 0x240ca1cc, 0x2de92c6f, 0x4a7484aa, 0x5cb0a9dc, 0x76f988da, 0x983e5152, 0xa831c66d, 0xb00327c8, 0xbf597fc7, 0xc6e00bf3, 0xd5a79147, 0x06ca6351, 0x14292967, 0x27b70a85, 0x2e1b2138, 0x4d2c6dfc, 0x53380d13, 0x650a7354, 0x766a0abb, 0x81c2c92e, 0x92722c85, 0xa2bfe8a1, 0xa81a664b, 0xc24b8b70, 0xc76c51a3, 0xd192e819, 0xd6990624, 0xf40e3585, 0x106aa070, 0x19a4c116, 0x1e376c08, 0x2748774c, 0x34b0bcb5, 0x391c0cb3, 0x4ed8aa4a, 0x5b9cca4f, 0x682e6ff3, 0x748f82ee, 0x78a5636f, 0x84c87814, 0x8cc70208, 0x90befffa, 0xa4506ceb, 0xbef9a3f7, 0xc67178f2]

structure St where
  a : BitVec 32
  b : BitVec 32
  c : BitVec 32
  d : BitVec 32
  e : BitVec 32
  f : BitVec 32
  g : BitVec 32
  h : BitVec 32
  deriving DecidableEq

def St.list (s : St) : List (BitVec 32) := [s.a, s.b, s.c, s.d, s.e, s.f, s.g, s.h]

def H0 : St := ⟨0x6a09e667, 0xbb67ae85, 0x3c6ef372, 0xa54ff53a, 0x510e527f, 0x9b05688c, 0x1f83d9ab, 0x5be0cd19⟩

/-- Word 't' of a block. -/
def word (bs : List (BitVec 8)) (t : Nat) : BitVec 32 :=
  (bs.getD (4 * t) 0).setWidth 32 <<< 24 ||| (bs.getD (4 * t + 1) 0).setWidth 32 <<< 16 ||| (bs.getD (4 * t + 2) 0).setWidth 32 <<< 8 ||| (bs.getD (4 * t + 3) 0).setWidth 32

def s0 (x : BitVec 32) : BitVec 32 := rotr 7 x ^^^ rotr 18 x ^^^ x >>> 3
def s1 (y : BitVec 32) : BitVec 32 := rotr 17 y ^^^ rotr 19 y ^^^ y >>> 10

/-- What comes behind the first 't' words. -/
def next (bs : List (BitVec 8)) (l : List (BitVec 32)) (t : Nat) : BitVec 32 :=
  if t < 16 then word bs t else l.getD (t - 16) 0 + s0 (l.getD (t - 15) 0) + l.getD (t - 7) 0 + s1 (l.getD (t - 2) 0)

/-- The first 't' words of the schedule. -/
def sched (bs : List (BitVec 8)) : Nat → List (BitVec 32)
  | 0 => []
  | t + 1 => sched bs t ++ [next bs (sched bs t) t]

theorem sched_length (bs : List (BitVec 8)) : ∀ t, (sched bs t).length = t
  | 0 => rfl
  | t + 1 => by simp [sched, sched_length bs t]

def p1 (s : St) (k w : BitVec 32) : BitVec 32 := s.h + (rotr 6 s.e ^^^ rotr 11 s.e ^^^ rotr 25 s.e) + (s.e &&& s.f ^^^ ~~~s.e &&& s.g) + k + w
def p2 (s : St) : BitVec 32 := (rotr 2 s.a ^^^ rotr 13 s.a ^^^ rotr 22 s.a) + (s.a &&& s.b ^^^ s.a &&& s.c ^^^ s.b &&& s.c)
def step (s : St) (k w : BitVec 32) : St := ⟨p1 s k w + p2 s, s.a, s.b, s.c, s.d + p1 s k w, s.e, s.f, s.g⟩

/-- The state after 't' rounds. -/
def rounds (ws : List (BitVec 32)) (s : St) : Nat → St
  | 0 => s
  | t + 1 => step (rounds ws s t) (K.getD t 0) (ws.getD t 0)

def St.add (s v : St) : St := ⟨s.a + v.a, s.b + v.b, s.c + v.c, s.d + v.d, s.e + v.e, s.f + v.f, s.g + v.g, s.h + v.h⟩

/-- The state after a block. -/
def comp (s : St) (bs : List (BitVec 8)) : St := s.add (rounds (sched bs 64) s 64)

/-- The state after the first 'j' blocks. -/
def run (s : St) (l : List (BitVec 8)) : Nat → St
  | 0 => s
  | j + 1 => comp (run s l j) ((l.drop (64 * j)).take 64)

theorem run_append (s : St) (l r : List (BitVec 8)) : ∀ j, 64 * j ≤ l.length → run s (l ++ r) j = run s l j
  | 0, _ => rfl
  | j + 1, h => by
    rw [run, run, run_append s l r j (by omega), List.drop_append_of_le_length (by omega), List.take_append_of_le_length (by simp; omega)]

/-- The eight bytes of the length. -/
def len8 (n : Nat) : List (BitVec 8) := (List.range 8).map fun i => BitVec.ofNat 8 (8 * n / 2 ^ (8 * (7 - i)))

/-- How many bytes 0 follow the byte 128. -/
def zeros (n : Nat) : Nat := (119 - n % 64) % 64

def pad (m : List (BitVec 8)) : List (BitVec 8) := m ++ [128] ++ List.replicate (zeros m.length) 0 ++ len8 m.length

def bytesOf (x : BitVec 32) : List (BitVec 8) := [(x >>> 24).setWidth 8, (x >>> 16).setWidth 8, (x >>> 8).setWidth 8, x.setWidth 8]

/-- The digest of a state. -/
def out (s : St) : List (BitVec 8) := s.list.flatMap bytesOf

def sha (m : List (BitVec 8)) : List (BitVec 8) := out (run H0 (pad m) ((pad m).length / 64))

theorem pad_length (m : List (BitVec 8)) : (pad m).length = m.length + 1 + zeros m.length + 8 := by simp [pad, len8]; omega

theorem pad_mod (m : List (BitVec 8)) : (pad m).length % 64 = 0 := by
  rw [pad_length]; unfold zeros; omega

theorem sha_abc : sha [97, 98, 99] = [0xba, 0x78, 0x16, 0xbf, 0x8f, 0x01, 0xcf, 0xea, 0x41, 0x41, 0x40, 0xde, 0x5d, 0xae, 0x22, 0x23, 0xb0, 0x03, 0x61, 0xa3, 0x96, 0x17, 0x7a, 0x9c, 0xb4, 0x10, 0xff, 0x61, 0xf2, 0x00, 0x15, 0xad] := by decide +kernel

end Go.Sha

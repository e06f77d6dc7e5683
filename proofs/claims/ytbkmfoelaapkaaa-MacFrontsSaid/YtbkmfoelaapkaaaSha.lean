/- SHA-256 as plain functions on lists of bytes and words: no program in sight. -/
import Derived.Test.YtbkmfoelaapkaaaWords
namespace Go.Proofs.Ytbkmfoelaapkaaa

/-- A turn to the left by s places. -/
def rl (x : UInt32) (s : Nat) : UInt32 := (x <<< UInt32.ofNat s) ||| (x >>> UInt32.ofNat (32 - s))

namespace Sha

/-- Four bytes as a word, the highest first. -/
def word (a b c d : UInt8) : UInt32 := a.toUInt32 <<< 24 ||| b.toUInt32 <<< 16 ||| c.toUInt32 <<< 8 ||| d.toUInt32
def bytesOf (x : UInt32) : List UInt8 := [(x >>> 24).toUInt8, (x >>> 16).toUInt8, (x >>> 8).toUInt8, x.toUInt8]

def s0 (x : UInt32) : UInt32 := rl x 25 ^^^ rl x 14 ^^^ x >>> 3
def s1 (x : UInt32) : UInt32 := rl x 15 ^^^ rl x 13 ^^^ x >>> 10
def S0 (x : UInt32) : UInt32 := rl x 30 ^^^ rl x 19 ^^^ rl x 10
def S1 (x : UInt32) : UInt32 := rl x 26 ^^^ rl x 21 ^^^ rl x 7
def ch (e f g : UInt32) : UInt32 := e &&& f ^^^ ~~~e &&& g
def maj (a b c : UInt32) : UInt32 := a &&& b ^^^ a &&& c ^^^ b &&& c

/-- The word behind l (of at least 16 words). -/
def nextW (l : List UInt32) : UInt32 := l.getD (l.length - 16) 0 + l.getD (l.length - 7) 0 + s0 (l.getD (l.length - 15) 0) + s1 (l.getD (l.length - 2) 0)
def ext : Nat → List UInt32 → List UInt32
  | 0, l => l
  | n + 1, l => ext n (l ++ [nextW l])
/-- The first n words of a block. -/
def firstW (b : List UInt8) (n : Nat) : List UInt32 := (List.range n).map fun i => word (b.getD (4 * i) 0) (b.getD (4 * i + 1) 0) (b.getD (4 * i + 2) 0) (b.getD (4 * i + 3) 0)
def sched (b : List UInt8) : List UInt32 := ext 48 (firstW b 16)

structure St where
  a : UInt32
  b : UInt32
  c : UInt32
  d : UInt32
  e : UInt32
  f : UInt32
  g : UInt32
  h : UInt32
  deriving DecidableEq

def rnd (s : St) (k w : UInt32) : St :=
  let t := s.h + S1 s.e + ch s.e s.f s.g + k + w
  { a := t + (S0 s.a + maj s.a s.b s.c), b := s.a, c := s.b, d := s.c, e := s.d + t, f := s.e, g := s.f, h := s.g }
def rnds (K W : List UInt32) : Nat → St → St
  | 0, s => s
  | n + 1, s => let s' := rnds K W n s; rnd s' (K.getD n 0) (W.getD n 0)
def plus (s t : St) : St := ⟨s.a + t.a, s.b + t.b, s.c + t.c, s.d + t.d, s.e + t.e, s.f + t.f, s.g + t.g, s.h + t.h⟩

def K : List UInt32 := [
  0x428a2f98, 0x71374491, 0xb5c0fbcf, 0xe9b5dba5, 0x3956c25b, 0x59f111f1, 0x923f82a4, 0xab1c5ed5,
  0xd807aa98, 0x12835b01, 0x243185be, 0x550c7dc3, 0x72be5d74, 0x80deb1fe, 0x9bdc06a7, 0xc19bf174,
  0xe49b69c1, 0xefbe4786, 0x0fc19dc6, 0x240ca1cc, 0x2de92c6f, 0x4a7484aa, 0x5cb0a9dc, 0x76f988da,
  0x983e5152, 0xa831c66d, 0xb00327c8, 0xbf597fc7, 0xc6e00bf3, 0xd5a79147, 0x06ca6351, 0x14292967,
  0x27b70a85, 0x2e1b2138, 0x4d2c6dfc, 0x53380d13, 0x650a7354, 0x766a0abb, 0x81c2c92e, 0x92722c85,
  0xa2bfe8a1, 0xa81a664b, 0xc24b8b70, 0xc76c51a3, 0xd192e819, 0xd6990624, 0xf40e3585, 0x106aa070,
  0x19a4c116, 0x1e376c08, 0x2748774c, 0x34b0bcb5, 0x391c0cb3, 0x4ed8aa4a, 0x5b9cca4f, 0x682e6ff3,
  0x748f82ee, 0x78a5636f, 0x84c87814, 0x8cc70208, 0x90befffa, 0xa4506ceb, 0xbef9a3f7, 0xc67178f2]
def H0 : St := ⟨0x6a09e667, 0xbb67ae85, 0x3c6ef372, 0xa54ff53a, 0x510e527f, 0x9b05688c, 0x1f83d9ab, 0x5be0cd19⟩

/-- A block taken in. -/
def comp (s : St) (b : List UInt8) : St := plus s (rnds K (sched b) 64 s)

/-- All whole blocks taken in; what is left. -/
def absorb (s : St) (l : List UInt8) : St × List UInt8 :=
  if l.length < 64 then (s, l) else absorb (comp s (l.take 64)) (l.drop 64)
termination_by l.length
decreasing_by simp; omega

def be64 (n : Nat) : List UInt8 := [7, 6, 5, 4, 3, 2, 1, 0].map fun i => UInt8.ofNat (n / 256 ^ i)
def zeros (n : Nat) : List UInt8 := List.replicate n 0
/-- What stands behind a message of n bytes. -/
def tail (n : Nat) : List UInt8 := 0x80 :: zeros ((119 - n % 64) % 64) ++ be64 (8 * n)
def out (s : St) : List UInt8 := bytesOf s.a ++ bytesOf s.b ++ bytesOf s.c ++ bytesOf s.d ++ bytesOf s.e ++ bytesOf s.f ++ bytesOf s.g ++ bytesOf s.h
def sum (m : List UInt8) : List UInt8 := out (absorb H0 (m ++ tail m.length)).1

theorem length_out (s : St) : (out s).length = 32 := by simp [out, bytesOf]
theorem length_sum (m : List UInt8) : (sum m).length = 32 := length_out _

theorem absorb_short (s : St) (l : List UInt8) (h : l.length < 64) : absorb s l = (s, l) := by rw [absorb, if_pos h]
theorem absorb_long (s : St) (l : List UInt8) (h : 64 ≤ l.length) : absorb s l = absorb (comp s (l.take 64)) (l.drop 64) := by rw [absorb, if_neg (by omega)]

/-- What comes later is taken in later. -/
theorem absorb_append (s : St) (l m : List UInt8) : absorb s (l ++ m) = absorb (absorb s l).1 ((absorb s l).2 ++ m) := by
  fun_induction absorb s l with
  | case1 s l h => rfl
  | case2 s l h ih =>
    rw [absorb_long _ _ (by simp; omega), ← ih, List.take_append_of_le_length (by omega), List.drop_append_of_le_length (by omega)]

theorem absorb_rest_lt (s : St) (l : List UInt8) : (absorb s l).2.length < 64 := by
  fun_induction absorb s l with
  | case1 s l h => exact h
  | case2 s l h ih => exact ih
theorem absorb_rest_mod (s : St) (l : List UInt8) : (absorb s l).2.length = l.length % 64 := by
  fun_induction absorb s l with
  | case1 s l h => simp; omega
  | case2 s l h ih => rw [ih, List.length_drop]; omega

theorem length_ext (n : Nat) (l : List UInt32) : (ext n l).length = l.length + n := by
  induction n generalizing l with
  | zero => rfl
  | succ n ih => rw [ext, ih]; simp; omega
theorem ext_succ (n : Nat) (l : List UInt32) : ext (n + 1) l = ext n l ++ [nextW (ext n l)] := by
  induction n generalizing l with
  | zero => rfl
  | succ n ih => rw [ext, ih]; rfl
theorem length_firstW (b : List UInt8) (n : Nat) : (firstW b n).length = n := by simp [firstW]
theorem firstW_succ (b : List UInt8) (n : Nat) : firstW b (n + 1) = firstW b n ++ [word (b.getD (4 * n) 0) (b.getD (4 * n + 1) 0) (b.getD (4 * n + 2) 0) (b.getD (4 * n + 3) 0)] := by
  simp [firstW, List.range_succ]
theorem length_sched (b : List UInt8) : (sched b).length = 64 := by simp [sched, length_ext, length_firstW]
theorem ext_getD (n i : Nat) (l : List UInt32) (h : i < l.length) : (ext n l).getD i 0 = l.getD i 0 := by
  induction n generalizing l with
  | zero => rfl
  | succ n ih => rw [ext, ih _ (by simp; omega)]; simp [List.getElem?_append_left h]

/-- A word as the walk spells it. -/
theorem word_walk (a b c d : UInt8) : bits BinOp.or IntKind.u32 (bits BinOp.or IntKind.u32 (bits BinOp.or IntKind.u32 ((a.toNat : Int) % 4294967296 * 16777216 % 4294967296) ((b.toNat : Int) % 4294967296 * 65536 % 4294967296))
    ((c.toNat : Int) % 4294967296 * 256 % 4294967296)) ((d.toNat : Int) % 4294967296) = ((word a b c d).toNat : Int) := by
  simp only [w32_of_u8, w32_shl24, w32_shl16, w32_shl8, u32_or_]
  rfl
end Sha
end Go.Proofs.Ytbkmfoelaapkaaa

/- Plain laws: the sums of texts: padding, words, steps. No program in sight. -/
import Derived.Lib.Bytealg
namespace Go.Proofs.Ytgjmnhbkdccgpaa
namespace S

/-- A word turned to the right. -/
def rotr (x : BitVec 32) (n : Nat) : BitVec 32 := (x >>> n) ||| (x <<< (32 - n))
def bsig0 (x : BitVec 32) : BitVec 32 := rotr x 2 ^^^ rotr x 13 ^^^ rotr x 22
def bsig1 (x : BitVec 32) : BitVec 32 := rotr x 6 ^^^ rotr x 11 ^^^ rotr x 25
def ssig0 (x : BitVec 32) : BitVec 32 := rotr x 7 ^^^ rotr x 18 ^^^ (x >>> 3)
def ssig1 (x : BitVec 32) : BitVec 32 := rotr x 17 ^^^ rotr x 19 ^^^ (x >>> 10)
def ch (e f g : BitVec 32) : BitVec 32 := (e &&& f) ^^^ (~~~e &&& g)
def maj (a b c : BitVec 32) : BitVec 32 := (a &&& b) ^^^ (a &&& c) ^^^ (b &&& c)
/-- Four bytes as a word, the highest first. -/
def word (b : List UInt8) (i : Nat) : BitVec 32 := BitVec.ofNat 32 ((b.getD (4 * i) 0).toNat * 16777216 + (b.getD (4 * i + 1) 0).toNat * 65536 + (b.getD (4 * i + 2) 0).toNat * 256 + (b.getD (4 * i + 3) 0).toNat)
/-- The next word of a block: of those that are there. -/
def schN (b : List UInt8) (l : List (BitVec 32)) (i : Nat) : BitVec 32 :=
  if i < 16 then word b i else l.getD (i - 16) 0#32 + ssig0 (l.getD (i - 15) 0#32) + l.getD (i - 7) 0#32 + ssig1 (l.getD (i - 2) 0#32)
def schTo (b : List UInt8) : Nat → List (BitVec 32)
  | 0 => []
  | k + 1 => schTo b k ++ [schN b (schTo b k) k]
/-- The eight words of a sum. -/
structure V8 where
  a : BitVec 32
  b : BitVec 32
  c : BitVec 32
  d : BitVec 32
  e : BitVec 32
  f : BitVec 32
  g : BitVec 32
  h : BitVec 32
def V8.list (v : V8) : List (BitVec 32) := [v.a, v.b, v.c, v.d, v.e, v.f, v.g, v.h]
def p1 (v : V8) (k w : BitVec 32) : BitVec 32 := v.h + bsig1 v.e + ch v.e v.f v.g + k + w
def p2 (v : V8) : BitVec 32 := bsig0 v.a + maj v.a v.b v.c
/-- A step. -/
def rnd (v : V8) (k w : BitVec 32) : V8 := ⟨p1 v k w + p2 v, v.a, v.b, v.c, v.d + p1 v k w, v.e, v.f, v.g⟩
def steps : List (BitVec 32) := [0x428a2f98#32, 0x71374491#32, 0xb5c0fbcf#32, 0xe9b5dba5#32, 0x3956c25b#32, 0x59f111f1#32, 0x923f82a4#32, 0xab1c5ed5#32, 0xd807aa98#32, 0x12835b01#32, 0x243185be#32, 0x550c7dc3#32, 0x72be5d74#32, 0x80deb1fe#32, 0x9bdc06a7#32, 0xc19bf174#32, 0xe49b69c1#32, 0xefbe4786#32, 0x0fc19dc6#32, 0x240ca1cc#32, 0x2de92c6f#32, 0x4a7484aa#32, 0x5cb0a9dc#32, 0x76f988da#32, 0x983e5152#32, 0xa831c66d#32, 0xb00327c8#32, 0xbf597fc7#32, 0xc6e00bf3#32, 0xd5a79147#32, 0x06ca6351#32, 0x14292967#32, 0x27b70a85#32, 0x2e1b2138#32, 0x4d2c6dfc#32, 0x53380d13#32, 0x650a7354#32, 0x766a0abb#32, 0x81c2c92e#32, 0x92722c85#32, 0xa2bfe8a1#32, 0xa81a664b#32, 0xc24b8b70#32, 0xc76c51a3#32, 0xd192e819#32, 0xd6990624#32, 0xf40e3585#32, 0x106aa070#32, 0x19a4c116#32, 0x1e376c08#32, 0x2748774c#32, 0x34b0bcb5#32, 0x391c0cb3#32, 0x4ed8aa4a#32, 0x5b9cca4f#32, 0x682e6ff3#32, 0x748f82ee#32, 0x78a5636f#32, 0x84c87814#32, 0x8cc70208#32, 0x90befffa#32, 0xa4506ceb#32, 0xbef9a3f7#32, 0xc67178f2#32]
def begin : V8 := ⟨0x6a09e667#32, 0xbb67ae85#32, 0x3c6ef372#32, 0xa54ff53a#32, 0x510e527f#32, 0x9b05688c#32, 0x1f83d9ab#32, 0x5be0cd19#32⟩
/-- So many steps. -/
def rndTo (v : V8) (W : List (BitVec 32)) : Nat → V8
  | 0 => v
  | i + 1 => rnd (rndTo v W i) (steps.getD i 0#32) (W.getD i 0#32)
def V8.add (v u : V8) : V8 := ⟨v.a + u.a, v.b + u.b, v.c + u.c, v.d + u.d, v.e + u.e, v.f + u.f, v.g + u.g, v.h + u.h⟩
/-- A block is taken in. -/
def mix (v : V8) (b : List UInt8) : V8 := v.add (rndTo v (schTo b 64) 64)
/-- Blocks are taken in, one behind the other. -/
def mixAll : Nat → V8 → List UInt8 → V8
  | 0, v, _ => v
  | k + 1, v, b => if b = [] then v else mixAll k (mix v (b.take 64)) (b.drop 64)
/-- How many noughts stand behind the first byte of padding. -/
def noughts (n : Nat) : Nat := (119 - n % 64) % 64
/-- A number as eight bytes, the highest first. -/
def be8 (n : Nat) : List UInt8 := (List.range 8).map fun i => UInt8.ofNat (n / 256 ^ (7 - i))
def padded (l : List UInt8) : List UInt8 := l ++ (128 :: List.replicate (noughts l.length) 0) ++ be8 (8 * l.length)
/-- The bytes of the words, the highest first. -/
def outB (v : V8) : List UInt8 := (List.range 32).map fun i => UInt8.ofNat ((v.list.getD (i / 4) 0#32).toNat / 256 ^ (3 - i % 4))
/-- The sum of a text. -/
def sum (l : List UInt8) : List UInt8 := outB (mixAll ((padded l).length / 64) begin (padded l))
theorem abc : (sum [97, 98, 99]).getD 0 0 = 186 ∧ (sum [97, 98, 99]).getD 1 0 = 120 ∧ (sum [97, 98, 99]).getD 31 0 = 173 := by decide +kernel
end S
end Go.Proofs.Ytgjmnhbkdccgpaa

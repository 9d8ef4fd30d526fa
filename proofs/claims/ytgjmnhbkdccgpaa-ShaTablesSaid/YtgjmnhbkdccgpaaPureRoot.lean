/- Plain laws: primes and roots, as the document's tables reckon them. -/
import Derived.Test.YtgjmnhbkdccgpaaPureSha
namespace Go.Proofs.Ytgjmnhbkdccgpaa
namespace T
def M64 : Nat := 18446744073709551616
/-- A place of a product. -/
def mulTo (a b : List Nat) (i : Nat) (out : List Nat) : Nat → List Nat
  | 0 => out
  | j + 1 => (mulTo a b i out j).set (i + j) (((mulTo a b i out j).getD (i + j) 0 + a.getD i 0 * b.getD j 0 % M64) % M64)
def rowsTo (a b : List Nat) : Nat → List Nat
  | 0 => List.replicate (a.length + b.length + 1) 0
  | i + 1 => mulTo a b i (rowsTo a b i) b.length
def carry1 (o : List Nat) (k : Nat) : List Nat := o.set (k + 1) ((o.getD (k + 1) 0 + o.getD k 0 / 1048576) % M64)
def carry2 (o : List Nat) (k : Nat) : List Nat := o.set k (o.getD k 0 % 1048576)
def carryTo (out : List Nat) : Nat → List Nat
  | 0 => out
  | k + 1 => carry2 (carry1 (carryTo out k) k) k
def limbs (a b : List Nat) : List Nat := carryTo (rowsTo a b a.length) (a.length + b.length)
def split (x : Nat) : List Nat := [x % 1048576, x / 1048576 % 1048576, x / 1099511627776]
def mostTo (a b : List Nat) : Nat → Bool
  | 0 => true
  | k + 1 => if a.getD k 0 = b.getD k 0 then mostTo a b k else decide (a.getD k 0 < b.getD k 0)
def most (a b : List Nat) : Bool := mostTo a b (max a.length b.length)
def wantTo (p : Nat) : Nat → List Nat
  | 0 => split p
  | i + 1 => limbs (wantTo p i) (split 4294967296)
def gotTo (y : Nat) : Nat → List Nat
  | 0 => split y
  | i + 1 => limbs (gotTo y i) (split y)
/-- So many bits, from bit 37 on. -/
def rootTo (want : List Nat) (power : Nat) : Nat → Nat
  | 0 => 0
  | k + 1 => if most (gotTo (rootTo want power k + 2 ^ (37 - k)) (power - 1)) want then rootTo want power k + 2 ^ (37 - k) else rootTo want power k
def root (p power : Nat) : Nat := rootTo (wantTo p power) power 38 % 4294967296
/-- Is a divisor from d on? so many at most. -/
def primeFrom (n : Nat) : Nat → Nat → Bool
  | 0, _ => decide (1 < n)
  | f + 1, d => if d * d ≤ n then (if n % d = 0 then false else primeFrom n f (d + 1)) else decide (1 < n)
def prime (n : Nat) : Bool := primeFrom n 20 2
/-- The primes below. -/
def primesTo : Nat → List Nat
  | 0 => []
  | k + 1 => if (primesTo k).length < 64 then (if prime (k + 2) then primesTo k ++ [k + 2] else primesTo k) else primesTo k
def plist : List Nat := [2, 3, 5, 7, 11, 13, 17, 19, 23, 29, 31, 37, 41, 43, 47, 53, 59, 61, 67, 71, 73, 79, 83, 89, 97, 101, 103, 107, 109, 113, 127, 131, 137, 139, 149, 151, 157, 163, 167, 173, 179, 181, 191, 193, 197, 199, 211, 223, 227, 229, 233, 239, 241, 251, 257, 263, 269, 271, 277, 281, 283, 293, 307, 311]
theorem primes_ : ∀ k : Fin 399, primesTo k.val = plist.filter (fun p => decide (p < k.val + 2)) := by decide +kernel
theorem roots2 : ∀ k : Fin 8, root (plist.getD k.val 0) 2 = (S.begin.list.getD k.val 0#32).toNat := by decide +kernel
theorem r3_0 : ∀ k : Fin 4, root (plist.getD (0 + k.val) 0) 3 = (S.steps.getD (0 + k.val) 0#32).toNat := by decide +kernel
theorem r3_1 : ∀ k : Fin 4, root (plist.getD (4 + k.val) 0) 3 = (S.steps.getD (4 + k.val) 0#32).toNat := by decide +kernel
theorem r3_2 : ∀ k : Fin 4, root (plist.getD (8 + k.val) 0) 3 = (S.steps.getD (8 + k.val) 0#32).toNat := by decide +kernel
theorem r3_3 : ∀ k : Fin 4, root (plist.getD (12 + k.val) 0) 3 = (S.steps.getD (12 + k.val) 0#32).toNat := by decide +kernel
theorem r3_4 : ∀ k : Fin 4, root (plist.getD (16 + k.val) 0) 3 = (S.steps.getD (16 + k.val) 0#32).toNat := by decide +kernel
theorem r3_5 : ∀ k : Fin 4, root (plist.getD (20 + k.val) 0) 3 = (S.steps.getD (20 + k.val) 0#32).toNat := by decide +kernel
theorem r3_6 : ∀ k : Fin 4, root (plist.getD (24 + k.val) 0) 3 = (S.steps.getD (24 + k.val) 0#32).toNat := by decide +kernel
theorem r3_7 : ∀ k : Fin 4, root (plist.getD (28 + k.val) 0) 3 = (S.steps.getD (28 + k.val) 0#32).toNat := by decide +kernel
end T
end Go.Proofs.Ytgjmnhbkdccgpaa

/- Plain laws: numbers as bytes, as code.Writer spells them. No program in sight. -/
import Derived.Lib.Bytealg
namespace Go.Proofs.Ytgjmnhbkdccgpaa
namespace D

/-- How many bytes a number wants. -/
def blen (n : Nat) : Nat := if h : n = 0 then 0 else blen (n / 256) + 1
termination_by n
decreasing_by omega
theorem blen_zero : blen 0 = 0 := by unfold blen; simp
theorem blen_pos {n : Nat} (h : n ≠ 0) : blen n = blen (n / 256) + 1 := by
  conv => lhs; unfold blen
  rw [dif_neg h]
theorem blen_le : ∀ (k n : Nat), n < 256 ^ k → blen n ≤ k
  | 0, n, h => by have : n = 0 := by omega
                  rw [this, blen_zero]; omega
  | k + 1, n, h => by
    by_cases h0 : n = 0
    · rw [h0, blen_zero]; omega
    · rw [blen_pos h0]
      have := blen_le k (n / 256) (by rw [Nat.pow_succ] at h; exact Nat.div_lt_of_lt_mul (by rw [Nat.mul_comm]; exact h))
      omega
/-- The bytes of a number in k places, the highest first. -/
def bek (n : Nat) : Nat → List UInt8
  | 0 => []
  | k + 1 => UInt8.ofNat (n / 256 ^ k) :: bek n k
theorem bek_length (n : Nat) : ∀ k, (bek n k).length = k
  | 0 => rfl
  | k + 1 => by rw [bek, List.length_cons, bek_length n k]
/-- The bytes of a number, the highest first. -/
def be (n : Nat) : List UInt8 := bek n (blen n)
/-- A number as it is spelled: how many bytes, and these. -/
def numB (n : Nat) : List UInt8 := UInt8.ofNat (blen n) :: be n
theorem bek_at (n : Nat) : ∀ (k j m : Nat), m + 1 + j = k → bek n k = (bek n k).take j ++ UInt8.ofNat (n / 256 ^ m) :: (bek n k).drop (j + 1)
  | 0, _, _, h => by omega
  | k + 1, 0, m, h => by
    obtain rfl : m = k := by omega
    simp [bek]
  | k + 1, j + 1, m, h => by
    have := bek_at n k j m (by omega)
    rw [bek, List.take_succ_cons, List.drop_succ_cons, List.cons_append, ← this]
theorem shr8 (n m : Nat) : (n : Int) / 2 ^ (8 * (m : Int)).toNat = ((n / 256 ^ m : Nat) : Int) := by
  have e : (8 * (m : Int)).toNat = 8 * m := by omega
  rw [e, Nat.pow_mul 2 8 m |> fun h => show ((2 : Int) ^ (8 * m)) = (((2 ^ 8) ^ m : Nat) : Int) from by rw [← h]; simp, Int.natCast_ediv]
theorem u8_mod (q : Nat) : ((UInt8.ofNat q).toNat : Int) = (q : Int) % 256 := by
  rw [UInt8.toNat_ofNat']; omega
theorem bek_succ {l r : List UInt8} {b : UInt8} {j : Nat} (h : l = l.take j ++ b :: r) (hj : j < l.length) : l.take (j + 1) = l.take j ++ [b] := by
  have hl : (l.take j).length = j := by simp; omega
  have : l[j] = b := by
    have e : l[j]? = some b := by rw [h, List.getElem?_append_right (by omega), hl, Nat.sub_self]; rfl
    rw [List.getElem?_eq_getElem hj] at e
    exact Option.some.inj e
  rw [List.take_succ_eq_append_getElem hj, this]
end D
end Go.Proofs.Ytgjmnhbkdccgpaa

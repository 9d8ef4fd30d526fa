/- Plain laws of the sum: the padded text's length, blocks one behind the other. -/
import Derived.Test.YtgjmnhbkdccgpaaPureSha
namespace Go.Proofs.Ytgjmnhbkdccgpaa
namespace S
theorem be8_length (n : Nat) : (be8 n).length = 8 := by simp [be8]
theorem padded_length (l : List UInt8) : (padded l).length = l.length + 1 + noughts l.length + 8 := by
  unfold padded
  simp only [List.length_append, List.length_cons, List.length_replicate, be8_length]
  omega
theorem padded_mod (l : List UInt8) : (padded l).length % 64 = 0 := by
  rw [padded_length]; unfold noughts; omega
theorem nought_test (n k : Nat) (hk : k ≤ noughts n) : (n + 1 + k) % 64 = 56 ↔ k = noughts n := by
  unfold noughts at *; omega
theorem noughts_lt (n : Nat) : noughts n < 64 := by unfold noughts; omega
/-- So many blocks of a padded text. -/
def mixTo (P : List UInt8) : Nat → V8
  | 0 => begin
  | k + 1 => mix (mixTo P k) ((P.drop (64 * k)).take 64)
theorem mixAll_to (P : List UInt8) : ∀ n j, 64 * (j + n) ≤ P.length → mixAll n (mixTo P j) (P.drop (64 * j)) = mixTo P (j + n)
  | 0, j, _ => rfl
  | n + 1, j, h => by
    have hne : P.drop (64 * j) ≠ [] := by
      intro e
      have := congrArg List.length e
      simp at this
      omega
    have := mixAll_to P n (j + 1) (by omega)
    rw [mixAll, if_neg hne, List.drop_drop, show 64 * j + 64 = 64 * (j + 1) from by omega]
    rw [show j + (n + 1) = j + 1 + n from by omega, ← this]
    rfl
theorem sum_to (l : List UInt8) : sum l = outB (mixTo (padded l) ((padded l).length / 64)) := by
  unfold sum
  have := mixAll_to (padded l) ((padded l).length / 64) 0 (by omega)
  rw [Nat.mul_zero, List.drop_zero, Nat.zero_add] at this
  rw [← this]
  rfl
theorem outB_length (v : V8) : (outB v).length = 32 := by simp [outB]
theorem sum_length (l : List UInt8) : (sum l).length = 32 := outB_length _
theorem be8_getD (n j : Nat) (h : j < 8) : (be8 n).getD j 0 = UInt8.ofNat (n / 256 ^ (7 - j)) := by
  simp [be8, h]
theorem be8_take (n j : Nat) (h : j < 8) : (be8 n).take (j + 1) = (be8 n).take j ++ [UInt8.ofNat (n / 256 ^ (7 - j))] := by
  rw [List.take_succ_eq_append_getElem (by rw [be8_length]; exact h)]
  simp [be8]
theorem outB_getD (v : V8) (i : Nat) (h : i < 32) : (outB v).getD i 0 = UInt8.ofNat ((v.list.getD (i / 4) 0#32).toNat / 256 ^ (3 - i % 4)) := by
  simp only [outB, List.getD_eq_getElem?_getD]
  rw [List.getElem?_map, List.getElem?_range h]
  rfl
end S
end Go.Proofs.Ytgjmnhbkdccgpaa

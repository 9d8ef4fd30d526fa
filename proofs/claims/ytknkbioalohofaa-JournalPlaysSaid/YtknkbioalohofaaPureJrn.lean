/- Names of segments in plain Lean: ten digits behind a beginning. -/
import Derived.Test.YtknkbioalohofaaPureDisk3
namespace Go.Proofs.Ytknkbioalohofaa
namespace Jr
/-- The last k digits of a number, the highest first. -/
def dig : Nat → Nat → List UInt8
  | 0, _ => []
  | k + 1, n => UInt8.ofNat (48 + n / 10 ^ k % 10) :: dig k n
def log : List UInt8 := [108, 111, 103, 45]
def name (n : Nat) : List UInt8 := log ++ dig 10 n
theorem dig_length (n : Nat) : ∀ k, (dig k n).length = k
  | 0 => rfl
  | k + 1 => by show (dig k n).length + 1 = k + 1; rw [dig_length n k]
theorem name_length (n : Nat) : (name n).length = 14 := by unfold name; rw [List.length_append, dig_length]; rfl
theorem good_name (n : Nat) : D.good (name n) = true := by
  unfold D.good
  rw [name_length]
  rfl
theorem dig_get (n : Nat) : ∀ k i, i < k → (dig k n)[i]? = some (UInt8.ofNat (48 + n / 10 ^ (k - 1 - i) % 10))
  | 0, i, h => by omega
  | k + 1, 0, _ => by show some _ = _; rw [show k + 1 - 1 - 0 = k by omega]
  | k + 1, i + 1, h => by
    show (dig k n)[i]? = _
    rw [dig_get n k i (by omega), show k + 1 - 1 - (i + 1) = k - 1 - i by omega]
theorem u8_dig (d : Nat) : (UInt8.ofNat (48 + d % 10)).toNat = 48 + d % 10 := by rw [UInt8.toNat_ofNat']; omega
/-- What stands there behind j rounds. -/
def part (n j : Nat) : List UInt8 := log ++ (List.replicate (10 - j) 48 ++ dig j n)
theorem part_zero (n : Nat) : part n 0 = [108, 111, 103, 45, 48, 48, 48, 48, 48, 48, 48, 48, 48, 48] := rfl
theorem part_length (n j : Nat) (h : j ≤ 10) : (part n j).length = 14 := by
  unfold part log
  rw [List.length_append, List.length_append, List.length_replicate, dig_length]
  show 4 + _ = 14
  omega
theorem part_step (n j : Nat) (h : j < 10) : (part n j).set (13 - j) (UInt8.ofNat (48 + n / 10 ^ j % 10)) = part n (j + 1) := by
  unfold part
  rw [List.set_append, if_neg (by show ¬ 13 - j < 4; omega), show 13 - j - log.length = 9 - j by show 13 - j - 4 = 9 - j; omega]
  congr 1
  rw [List.set_append, if_pos (by rw [List.length_replicate]; omega)]
  rw [show 10 - j = (9 - j) + 1 by omega, List.replicate_succ', List.set_append, if_neg (by rw [List.length_replicate]; omega), List.length_replicate, Nat.sub_self]
  rw [show 10 - (j + 1) = 9 - j by omega, List.append_assoc]
  rfl
theorem dig_zeros (n : Nat) : ∀ k j, n < 10 ^ j → j ≤ k → dig k n = List.replicate (k - j) 48 ++ dig j n
  | 0, j, _, hk => by
    obtain rfl : j = 0 := by omega
    rfl
  | k + 1, j, hn, hk => by
    rcases Nat.lt_or_ge k j with h | h
    · obtain rfl : j = k + 1 := by omega
      rw [Nat.sub_self]; rfl
    · have h0 : n / 10 ^ k = 0 := Nat.div_eq_of_lt (Nat.lt_of_lt_of_le hn (Nat.pow_le_pow_right (by omega) h))
      show UInt8.ofNat (48 + n / 10 ^ k % 10) :: dig k n = _
      rw [h0, dig_zeros n k j hn h, show k + 1 - j = (k - j) + 1 by omega, List.replicate_succ]
      rfl
theorem part_done (n j : Nat) (hj : j ≤ 10) (h : n < 10 ^ j) : part n j = name n := by
  unfold part name
  rw [dig_zeros n 10 j h hj]
theorem part_ten (n : Nat) : part n 10 = name n := by unfold part name; simp
/-! ### their order -/
theorem dig_mod (n : Nat) : ∀ k, dig k (n % 10 ^ k) = dig k n
  | 0 => rfl
  | k + 1 => by
    have h1 : n % 10 ^ (k + 1) / 10 ^ k % 10 = n / 10 ^ k % 10 := by
      rw [Nat.pow_succ, Nat.mod_mul_right_div_self, Nat.mod_mod]
    have h2 : n % 10 ^ (k + 1) % 10 ^ k = n % 10 ^ k := by rw [Nat.pow_succ]; exact Nat.mod_mul_right_mod _ _ _
    show UInt8.ofNat _ :: dig k _ = UInt8.ofNat _ :: dig k n
    rw [h1, ← dig_mod (n % 10 ^ (k + 1)) k, h2, dig_mod n k]
theorem before_dig (a b : Nat) : ∀ k, bytesBefore (dig k a) (dig k b) = decide (a % 10 ^ k < b % 10 ^ k)
  | 0 => by
    show false = _
    rw [Nat.pow_zero, Nat.mod_one, Nat.mod_one]; rfl
  | k + 1 => by
    have ih := before_dig a b k
    have ea : a % 10 ^ (k + 1) = a % 10 ^ k + 10 ^ k * (a / 10 ^ k % 10) := by rw [Nat.pow_succ, Nat.mod_mul]
    have eb : b % 10 ^ (k + 1) = b % 10 ^ k + 10 ^ k * (b / 10 ^ k % 10) := by rw [Nat.pow_succ, Nat.mod_mul]
    have la := Nat.mod_lt a (show 0 < 10 ^ k from Nat.pow_pos (by omega))
    have lb := Nat.mod_lt b (show 0 < 10 ^ k from Nat.pow_pos (by omega))
    show (decide (UInt8.ofNat (48 + a / 10 ^ k % 10) < UInt8.ofNat (48 + b / 10 ^ k % 10)) || (UInt8.ofNat (48 + a / 10 ^ k % 10) == UInt8.ofNat (48 + b / 10 ^ k % 10) && bytesBefore (dig k a) (dig k b))) = _
    rw [ih, ea, eb]
    have e1 : decide (UInt8.ofNat (48 + a / 10 ^ k % 10) < UInt8.ofNat (48 + b / 10 ^ k % 10)) = decide (a / 10 ^ k % 10 < b / 10 ^ k % 10) := by
      rw [decide_eq_decide, UInt8.lt_iff_toNat_lt, u8_dig, u8_dig]; omega
    have e2 : (UInt8.ofNat (48 + a / 10 ^ k % 10) == UInt8.ofNat (48 + b / 10 ^ k % 10)) = decide (a / 10 ^ k % 10 = b / 10 ^ k % 10) := by
      rw [Bool.eq_iff_iff, beq_iff_eq, decide_eq_true_eq, ← UInt8.toNat_inj, u8_dig, u8_dig]; omega
    rw [e1, e2]
    generalize a / 10 ^ k % 10 = x at *
    generalize b / 10 ^ k % 10 = y at *
    generalize a % 10 ^ k = u at *
    generalize b % 10 ^ k = v at *
    generalize 10 ^ k = P at *
    rcases Nat.lt_trichotomy x y with h | h | h
    · have : P * x + P ≤ P * y := by rw [← Nat.mul_succ]; exact Nat.mul_le_mul_left _ h
      simp only [decide_eq_true h, Bool.true_or]
      symm; rw [decide_eq_true_eq]; omega
    · subst h
      simp
    · have : P * y + P ≤ P * x := by rw [← Nat.mul_succ]; exact Nat.mul_le_mul_left _ h
      rw [decide_eq_false (by omega), decide_eq_false (by omega)]
      simp; omega
theorem before_name (a b : Nat) (ha : a < 10000000000) (hb : b < 10000000000) : bytesBefore (name a) (name b) = decide (a < b) := by
  have h := before_dig a b 10
  rw [Nat.mod_eq_of_lt (by simpa using ha), Nat.mod_eq_of_lt (by simpa using hb)] at h
  rw [← h]
  show bytesBefore (108 :: 111 :: 103 :: 45 :: dig 10 a) (108 :: 111 :: 103 :: 45 :: dig 10 b) = _
  simp [bytesBefore]
theorem name_inj {a b : Nat} (ha : a < 10000000000) (hb : b < 10000000000) (h : name a = name b) : a = b := by
  have h1 := before_name a b ha hb
  have h2 := before_name b a hb ha
  rw [h] at h1 h2
  rw [h1] at h2
  by_cases h3 : a < b
  · rw [decide_eq_true h3, eq_comm, decide_eq_true_eq] at h2; omega
  · rw [decide_eq_false h3, eq_comm, decide_eq_false_iff_not] at h2; omega
/-- The number of the first i digits. -/
theorem dig_value (n i : Nat) (h : i < 10) : n / 10 ^ (10 - (i + 1)) = 10 * (n / 10 ^ (10 - i)) + n / 10 ^ (10 - 1 - i) % 10 := by
  have e1 : 10 - (i + 1) = 9 - i := by omega
  have e2 : 10 - i = (9 - i) + 1 := by omega
  have e3 : 10 - 1 - i = 9 - i := by omega
  rw [e1, e2, e3, Nat.pow_succ, ← Nat.div_div_eq_div_mul]
  omega
end Jr
end Go.Proofs.Ytknkbioalohofaa

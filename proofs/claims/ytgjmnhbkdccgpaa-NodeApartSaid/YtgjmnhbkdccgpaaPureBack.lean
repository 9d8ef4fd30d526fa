/- Plain laws: what a writer spells a reader reads. No program in sight. -/
import Derived.Test.YtgjmnhbkdccgpaaPureTake
namespace Go.Proofs.Ytgjmnhbkdccgpaa
namespace D

theorem blen_lt (n : Nat) : n < 256 ^ blen n := by
  induction n using Nat.strongRecOn with
  | ind n ih =>
    by_cases h : n = 0
    · subst h; rw [blen_zero]; decide
    · rw [blen_pos h, Nat.pow_succ]
      have := ih (n / 256) (by omega)
      omega
theorem blen_top (n : Nat) (h : n ≠ 0) : 256 ^ (blen n - 1) ≤ n := by
  induction n using Nat.strongRecOn with
  | ind n ih =>
    rw [blen_pos h, Nat.add_sub_cancel]
    by_cases h0 : n / 256 = 0
    · rw [h0, blen_zero]; simp; omega
    · have h1 := ih (n / 256) (by omega) h0
      have h2 : blen (n / 256) = blen (n / 256) - 1 + 1 := by rw [blen_pos h0]; omega
      rw [h2, Nat.pow_succ]
      omega
theorem num_bek (n : Nat) : ∀ k, num (bek n k) = n % 256 ^ k
  | 0 => by simp [bek, num, Nat.mod_one]
  | k + 1 => by
    have e : n % (256 ^ k * 256) = n % 256 ^ k + 256 ^ k * (n / 256 ^ k % 256) := Nat.mod_mul
    have e2 : (256 : Nat) ^ (k + 1) = 256 ^ k * 256 := by rw [Nat.pow_succ]
    rw [bek, num_cons, num_bek n k, bek_length, UInt8.toNat_ofNat', e2, e, Nat.mul_comm (256 ^ k), Nat.add_comm]
theorem num_be (n : Nat) : num (be n) = n := by rw [be, num_bek, Nat.mod_eq_of_lt (blen_lt n)]
theorem be_length (n : Nat) : (be n).length = blen n := bek_length n _
theorem numB_length (n : Nat) : (numB n).length = blen n + 1 := by rw [numB, List.length_cons, be_length]
theorem take_mid (p t q : List UInt8) : take (p ++ (t ++ q)) ⟨p.length, 0⟩ t.length = (t, ⟨p.length + t.length, 0⟩) := by
  unfold take
  rw [if_neg (by simp), if_neg (by simp)]
  simp
theorem bad_be (n : Nat) (h : n < 9223372036854775808) : bad (blen n) (be n) = false := by
  by_cases h0 : n = 0
  · subst h0; rw [be, blen_zero]; rfl
  · have ht := blen_top n h0
    have hl := blen_lt n
    have h8 := blen_le 8 n (by omega)
    have hs : blen n = (blen n - 1) + 1 := by rw [blen_pos h0]; omega
    rw [be]
    generalize blen n = b at *
    rw [hs] at hl ⊢
    generalize b - 1 = k at *
    rw [bek, bad, UInt8.toNat_ofNat']
    rw [Nat.pow_succ] at hl
    have h1 : n / 256 ^ k < 256 := Nat.div_lt_of_lt_mul hl
    have h2 : 1 ≤ n / 256 ^ k := (Nat.le_div_iff_mul_le (Nat.pow_pos (by decide))).2 (by omega)
    rw [Nat.mod_eq_of_lt (show n / 256 ^ k < 2 ^ 8 from h1)]
    have e1 : (n / 256 ^ k == 0) = false := by simp; omega
    rw [e1, Bool.false_or]
    by_cases h7 : k = 7
    · subst h7
      have : n / 256 ^ 7 ≤ 127 := by
        have : n / 256 ^ 7 < 128 := Nat.div_lt_of_lt_mul (by omega)
        omega
      have e2 : decide (127 < n / 256 ^ 7) = false := by simp; omega
      rw [e2, Bool.and_false]
    · have e3 : (k + 1 == 8) = false := by simp; omega
      rw [e3, Bool.false_and]
/-- A number goes and comes back. -/
theorem number_back (p q : List UInt8) (n : Nat) (h : n < 9223372036854775808) : number (p ++ (numB n ++ q)) ⟨p.length, 0⟩ = (n, ⟨p.length + (numB n).length, 0⟩) := by
  have h8 := blen_le 8 n (by omega)
  have hb : (UInt8.ofNat (blen n)).toNat = blen n := by rw [UInt8.toNat_ofNat']; omega
  have t1 : take (p ++ (numB n ++ q)) ⟨p.length, 0⟩ 1 = ([UInt8.ofNat (blen n)], ⟨p.length + 1, 0⟩) := take_mid p [UInt8.ofNat (blen n)] (be n ++ q)
  have t2 : take (p ++ (numB n ++ q)) ⟨p.length + 1, 0⟩ (blen n) = (be n, ⟨p.length + 1 + blen n, 0⟩) := by
    have := take_mid (p ++ [UInt8.ofNat (blen n)]) (be n) q
    rw [be_length, List.length_append, List.length_singleton] at this
    rw [← this]
    simp [numB]
  have hc : (take (p ++ (numB n ++ q)) ⟨p.length, 0⟩ 1).1 = UInt8.ofNat (blen n) :: [] := by rw [t1]
  rw [number_ok hc (by omega) (by rw [hb, t1, t2]; exact bad_be n h), hb, t1, t2, num_be, numB_length]
  simp [Nat.add_assoc, Nat.add_comm]
/-- A label goes and comes back. -/
theorem label_back (p l q : List UInt8) (hl : l.length = 32) : label (p ++ (l ++ q)) ⟨p.length, 0⟩ = (l, ⟨p.length + 32, 0⟩) := by
  unfold label
  have := take_mid p l q
  rw [hl] at this
  rw [this]
  simp [hl]
theorem done_end (s : List UInt8) : done s ⟨s.length, 0⟩ = 0 := by unfold done; simp
end D
end Go.Proofs.Ytgjmnhbkdccgpaa

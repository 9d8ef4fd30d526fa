/- Plain laws: the table of the cyclic sum, and a byte's step by it; the steps as numbers. No program in sight. -/
import Derived.Test.YtknkbioalohofaaPureSeal
namespace Go.Proofs.Ytknkbioalohofaa
namespace C

theorem lsb_mod (x : BitVec 32) : x.getLsbD 0 = decide (x.toNat % 2 = 1) := by
  rw [BitVec.getLsbD, Nat.testBit_zero]
theorem stp_even (x : BitVec 32) (h : x.toNat % 2 = 0) : (stp x).toNat = x.toNat / 2 := by
  unfold stp
  rw [lsb_mod, decide_eq_false (by omega)]
  simp [Nat.shiftRight_eq_div_pow]
theorem stp_odd (x : BitVec 32) (h : x.toNat % 2 = 1) : (stp x).toNat = x.toNat / 2 ^^^ 3988292384 := by
  unfold stp
  rw [lsb_mod, decide_eq_true h, if_pos rfl, BitVec.toNat_xor, BitVec.toNat_ushiftRight, Nat.shiftRight_eq_div_pow]
  rfl
theorem stps_succ (k : Nat) (x : BitVec 32) : stps (k + 1) x = stp (stps k x) := by
  have := stps_add k 1 x
  rw [← this]; rfl
/-- What a byte's number does to a sum. -/
def tab (i : Nat) : BitVec 32 := st8 (BitVec.ofNat 32 i)
theorem and255 (x : BitVec 32) : (x &&& 255#32).toNat = x.toNat % 256 := by
  rw [BitVec.toNat_and]
  exact Nat.and_two_pow_sub_one_eq_mod x.toNat 8
theorem crc_low (c : BitVec 32) (b : UInt8) : (c ^^^ w8 b) &&& 255#32 = BitVec.ofNat 32 ((c.toNat % 256) ^^^ b.toNat) := by
  apply BitVec.eq_of_toNat_eq
  have hb := b.toNat_lt
  have h1 : (c.toNat % 256) ^^^ b.toNat < 2 ^ 8 := Nat.xor_lt_two_pow (by omega) hb
  rw [and255, BitVec.toNat_xor, w8_toNat, BitVec.toNat_ofNat, Nat.mod_eq_of_lt (show (c.toNat % 256) ^^^ b.toNat < 2 ^ 32 by omega), show (256 : Nat) = 2 ^ 8 from rfl, Nat.xor_mod_two_pow, Nat.mod_eq_of_lt hb]
theorem crc_high (c : BitVec 32) (b : UInt8) : (c ^^^ w8 b) >>> 8 = c >>> 8 := by
  have hz : (w8 b) >>> 8 = 0#32 := by
    apply BitVec.eq_of_toNat_eq
    rw [BitVec.toNat_ushiftRight, w8_toNat, Nat.shiftRight_eq_div_pow]
    have := b.toNat_lt
    simp; omega
  rw [BitVec.ushiftRight_xor_distrib, hz, BitVec.xor_zero]
/-- A byte's step by the table. -/
theorem crc_tab (c : BitVec 32) (b : UInt8) : (crc c b).toNat = (tab ((c.toNat % 256) ^^^ b.toNat)).toNat ^^^ (c.toNat / 256) := by
  unfold crc tab
  rw [st8_table, crc_low, crc_high, BitVec.toNat_xor, BitVec.toNat_ushiftRight, Nat.shiftRight_eq_div_pow]
theorem crc_idx (c : BitVec 32) (b : UInt8) : (c.toNat % 256) ^^^ b.toNat < 256 := Nat.xor_lt_two_pow (n := 8) (by omega) b.toNat_lt
/-- The sum of what is behind some bytes. -/
def sums (l : List UInt8) : BitVec 32 := l.foldl crc (BitVec.allOnes 32)
theorem sums_snoc (l : List UInt8) (b : UInt8) : sums (l ++ [b]) = crc (sums l) b := by unfold sums; rw [List.foldl_append]; rfl
theorem sums_take (l : List UInt8) (k : Nat) (h : k < l.length) : sums (l.take (k + 1)) = crc (sums (l.take k)) (l.getD k 0) := by
  rw [List.take_succ_eq_append_getElem h, sums_snoc, List.getD_eq_getElem?_getD, List.getElem?_eq_getElem h]; rfl
theorem check_sums (l : List UInt8) : (check l).toNat = 4294967295 - (sums l).toNat := by
  unfold check sums
  rw [BitVec.toNat_not]
/-- A number as four bytes, the highest first. -/
def four (x : Nat) : List UInt8 := [UInt8.ofNat (x / 16777216), UInt8.ofNat (x / 65536), UInt8.ofNat (x / 256), UInt8.ofNat x]
/-- The head of a frame, and the frame. -/
def head (n : Nat) : List UInt8 := [94, UInt8.ofNat (n / 65536), UInt8.ofNat (n / 256), UInt8.ofNat n]
def wrap (l : List UInt8) : List UInt8 := head l.length ++ (four (check (head l.length ++ l)).toNat ++ l)
theorem wrap_length (l : List UInt8) : (wrap l).length = l.length + 8 := by simp [wrap, head, four]
/-- The length that a frame tells; the sum that it tells. -/
def toldN (s : List UInt8) : Nat := (s.getD 1 0).toNat * 65536 + (s.getD 2 0).toNat * 256 + (s.getD 3 0).toNat
def toldC (s : List UInt8) : Nat := (s.getD 4 0).toNat * 16777216 + (s.getD 5 0).toNat * 65536 + (s.getD 6 0).toNat * 256 + (s.getD 7 0).toNat
/-- What a frame is opened as: its text, its bytes, the fault. -/
def opn (s : List UInt8) : List UInt8 × Nat × Nat :=
  if s.length < 8 then ([], 0, 5)
  else if (s.getD 0 0).toNat ≠ 94 then ([], 0, 4)
  else if 65536 < toldN s then ([], 0, 4)
  else if s.length < 8 + toldN s then ([], 0, 5)
  else if (check (s.take 4 ++ (s.drop 8).take (toldN s))).toNat = toldC s then ((s.drop 8).take (toldN s), 8 + toldN s, 0) else ([], 0, 6)
theorem toldN_lt (s : List UInt8) : toldN s < 16777216 := by
  unfold toldN
  have h1 := (s.getD 1 0).toNat_lt
  have h2 := (s.getD 2 0).toNat_lt
  have h3 := (s.getD 3 0).toNat_lt
  omega
theorem toldC_lt (s : List UInt8) : toldC s < 4294967296 := by
  unfold toldC
  have h1 := (s.getD 4 0).toNat_lt
  have h2 := (s.getD 5 0).toNat_lt
  have h3 := (s.getD 6 0).toNat_lt
  have h4 := (s.getD 7 0).toNat_lt
  omega
/-- The texts of the frames from the beginning on, and their bytes; so many frames at most. -/
def allF : Nat → List UInt8 → List (List UInt8) × Nat
  | 0, _ => ([], 0)
  | k + 1, s => if (opn s).2.2 = 0 then ((opn s).1 :: (allF k (s.drop (opn s).2.1)).1, (opn s).2.1 + (allF k (s.drop (opn s).2.1)).2) else ([], 0)
def all (s : List UInt8) : List (List UInt8) × Nat := allF (s.length + 1) s
end C
end Go.Proofs.Ytknkbioalohofaa

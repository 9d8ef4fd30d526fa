/- Plain laws: sums by keys. -/
import Derived.Test.YtknkbioalohofaaPureSum
namespace Go.Proofs.Ytknkbioalohofaa
namespace S
/-- A key as it is used: a long one by its sum; noughts behind it. -/
def keyOf (key : List UInt8) : List UInt8 := if 64 < key.length then sum key else key
def key64 (key : List UInt8) : List UInt8 := keyOf key ++ List.replicate (64 - (keyOf key).length) 0
def xorL (c : UInt8) (l : List UInt8) : List UInt8 := l.map (· ^^^ c)
def mac (key text : List UInt8) : List UInt8 := sum (xorL 92 (key64 key) ++ sum (xorL 54 (key64 key) ++ text))
theorem keyOf_le (key : List UInt8) : (keyOf key).length ≤ 64 := by
  unfold keyOf
  by_cases h : 64 < key.length
  · rw [if_pos h, sum_length]; omega
  · rw [if_neg h]; omega
theorem key64_length (key : List UInt8) : (key64 key).length = 64 := by
  have := keyOf_le key
  unfold key64; rw [List.length_append, List.length_replicate]; omega
theorem xorL_length (c : UInt8) (l : List UInt8) : (xorL c l).length = l.length := by simp [xorL]
theorem mac_length (key text : List UInt8) : (mac key text).length = 32 := sum_length _
/-- The first so many are turned, noughts behind them. -/
def xorTo (c : UInt8) (l : List UInt8) (k : Nat) : List UInt8 := (xorL c l).take k ++ List.replicate (64 - k) 0
theorem xorTo_0 (c : UInt8) (l : List UInt8) : xorTo c l 0 = List.replicate 64 0 := by simp [xorTo]
theorem xorTo_64 (c : UInt8) (l : List UInt8) (h : l.length = 64) : xorTo c l 64 = xorL c l := by
  unfold xorTo; rw [List.take_of_length_le (by rw [xorL_length]; omega)]; simp
theorem xorTo_length (c : UInt8) (l : List UInt8) (h : l.length = 64) (k : Nat) (hk : k ≤ 64) : (xorTo c l k).length = 64 := by
  unfold xorTo; rw [List.length_append, List.length_take, xorL_length, List.length_replicate]; omega
theorem xorTo_set (c : UInt8) (l : List UInt8) (h : l.length = 64) (k : Nat) (hk : k < 64) : (xorTo c l k).set k (l.getD k 0 ^^^ c) = xorTo c l (k + 1) := by
  unfold xorTo
  have hl := xorL_length c l
  obtain ⟨m, hm⟩ : ∃ m, 64 - k = m + 1 := ⟨64 - k - 1, by omega⟩
  rw [hm, show 64 - (k + 1) = m from by omega, List.set_append_right _ _ (by rw [List.length_take]; omega), List.length_take, Nat.min_eq_left (by omega), Nat.sub_self, List.replicate_succ, List.set_cons_zero, List.take_succ_eq_append_getElem (by omega), List.append_assoc]
  simp [xorL, List.getD_eq_getElem?_getD, List.getElem?_eq_getElem (show k < l.length by omega)]
end S
end Go.Proofs.Ytknkbioalohofaa

/- Plain laws of prefixes, grown bit by bit. No program in sight. -/
import Derived.Test.YtgjmnhbkdccgpaaPureHex
namespace Go.Proofs.Ytgjmnhbkdccgpaa
namespace B
theorem getD_replicate (n j : Nat) : (List.replicate n (0 : UInt8)).getD j 0 = 0 := by
  rw [List.getD_eq_getElem?_getD]
  by_cases h : j < n
  · rw [List.getElem?_replicate, if_pos h]; rfl
  · rw [List.getElem?_eq_none (by simpa using h)]; rfl
theorem cut_zero (l : List UInt8) : cut l 0 = List.replicate 32 0 :=
  lab_ext (cut_length _ _) List.length_replicate fun i hi => by
    rw [cut_bit _ _ _ (by omega) hi]
    unfold bit
    rw [getD_replicate]
    simp
theorem cut_set (l : List UInt8) (n : Nat) (hn : n < 256) (h : bit l n = true) : setb (cut l n) n = cut l (n + 1) := by
  have := next_cut l n hn
  rw [h] at this
  exact this
theorem cut_skip (l : List UInt8) (n : Nat) (hn : n < 256) (h : bit l n = false) : cut l n = cut l (n + 1) := by
  have := next_cut l n hn
  rw [h] at this
  exact this
theorem nextB_set (p : List UInt8) (n b : Nat) (hb : b ≤ 1) : p.set (n / 8) (p.getD (n / 8) 0 ||| UInt8.ofNat (b * 2 ^ (7 - n % 8))) = nextB n p b := by
  unfold nextB
  have h : b = 0 ∨ b = 1 := by omega
  rcases h with rfl | rfl
  · rw [if_neg (by decide), Nat.zero_mul]
    have e : p.getD (n / 8) 0 ||| UInt8.ofNat 0 = p.getD (n / 8) 0 := by simp
    rw [e]
    apply List.ext_getElem (by simp)
    intro j h1 h2
    rw [List.getElem_set]
    split
    · rename_i hj; subst hj; rw [List.getD_eq_getElem?_getD, List.getElem?_eq_getElem h2]; rfl
    · rfl
  · rw [if_pos (by decide), Nat.one_mul]; rfl
theorem nextB_byte (p : List UInt8) (n b : Nat) (hb : b ≤ 1) : (p.getD (n / 8) 0 ||| UInt8.ofNat (b * 2 ^ (7 - n % 8))).toNat = (p.getD (n / 8) 0).toNat ||| (b * 2 ^ (7 - n % 8)) ∧ b * 2 ^ (7 - n % 8) < 256 := by
  have h2 : b * 2 ^ (7 - n % 8) < 256 := Nat.lt_of_le_of_lt (Nat.mul_le_mul_right _ hb) (by rw [Nat.one_mul]; exact pow_lt _)
  exact ⟨by rw [UInt8.toNat_or, UInt8.toNat_ofNat', Nat.mod_eq_of_lt h2], h2⟩
/-- The whole bytes of a prefix, and noughts. -/
def cutW (l : List UInt8) (k : Nat) : List UInt8 := l.take k ++ List.replicate (32 - k) 0
theorem cutW_eq (l z : List UInt8) (k : Nat) (hl : l.length = 32) (hk : k ≤ 32) (hz : z = List.replicate 32 0) : l.take k ++ z.drop (l.take k).length = cutW l k := by
  unfold cutW
  rw [hz, List.length_take, hl, Nat.min_eq_left hk, List.drop_replicate]
theorem cutW_length (l : List UInt8) (k : Nat) (hl : l.length = 32) (hk : k ≤ 32) : (cutW l k).length = 32 := by
  simp [cutW, hl]; omega
theorem cutW_getD (l : List UInt8) (k j : Nat) (hl : l.length = 32) (hk : k ≤ 32) : (cutW l k).getD j 0 = if j < k then l.getD j 0 else 0 := by
  unfold cutW
  rw [List.getD_eq_getElem?_getD, List.getElem?_append]
  simp only [List.length_take, hl, Nat.min_eq_left hk]
  by_cases h : j < k
  · rw [if_pos h, if_pos h, List.getElem?_take_of_lt h, ← List.getD_eq_getElem?_getD]
  · rw [if_neg h, if_neg h, ← List.getD_eq_getElem?_getD, getD_replicate]
theorem ext_getD {a b : List UInt8} (ha : a.length = 32) (hb : b.length = 32) (h : ∀ j, j < 32 → a.getD j 0 = b.getD j 0) : a = b := by
  apply List.ext_getElem (by omega)
  intro j h1 h2
  have := h j (by omega)
  rwa [List.getD_eq_getElem?_getD, List.getD_eq_getElem?_getD, List.getElem?_eq_getElem h1, List.getElem?_eq_getElem h2] at this
theorem cut_whole (l : List UInt8) (n : Nat) (hl : l.length = 32) (hn : n ≤ 256) (h : n % 8 = 0) : cutW l (n / 8) = cut l n :=
  ext_getD (cutW_length _ _ hl (by omega)) (cut_length _ _) fun j hj => by
    rw [cutW_getD _ _ _ hl (by omega), cut_getD _ _ _ hj]
    unfold cutB
    rw [h]
    by_cases h1 : j < n / 8
    · rw [if_pos h1, if_pos h1]
    · rw [if_neg h1, if_neg h1]
      by_cases h2 : j = n / 8
      · rw [if_pos h2]; simp
      · rw [if_neg h2]
theorem cut_part (l : List UInt8) (n : Nat) (hl : l.length = 32) (hn : n ≤ 256) :
    (cutW l (n / 8)).set (n / 8) (l.getD (n / 8) 0 &&& UInt8.ofNat (255 - 255 / 2 ^ (n % 8))) = cut l n :=
  ext_getD (by rw [List.length_set]; exact cutW_length _ _ hl (by omega)) (cut_length _ _) fun j hj => by
    rw [cut_getD _ _ _ hj]
    unfold cutB
    by_cases h2 : j = n / 8
    · subst h2
      rw [List.getD_eq_getElem?_getD, List.getElem?_set_self (by rw [cutW_length _ _ hl (by omega)]; exact hj)]
      simp
    · rw [List.getD_eq_getElem?_getD, List.getElem?_set_ne (by omega), ← List.getD_eq_getElem?_getD, cutW_getD _ _ _ hl (by omega)]
      by_cases h1 : j < n / 8
      · rw [if_pos h1, if_pos h1]
      · rw [if_neg h1, if_neg h1, if_neg h2]
theorem cut_byte (l : List UInt8) (n : Nat) : (l.getD (n / 8) 0 &&& UInt8.ofNat (255 - 255 / 2 ^ (n % 8))).toNat = (l.getD (n / 8) 0).toNat &&& (255 - 255 / 2 ^ (n % 8)) := by
  rw [UInt8.toNat_and, UInt8.toNat_ofNat', Nat.mod_eq_of_lt (Nat.lt_of_le_of_lt (Nat.sub_le _ _) (by decide))]
end B
end Go.Proofs.Ytgjmnhbkdccgpaa

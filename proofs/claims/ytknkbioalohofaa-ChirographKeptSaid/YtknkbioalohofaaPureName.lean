/- Plain laws: runes of texts, as decoded. -/
import Derived.Test.YtknkbioalohofaaKit3
import Derived.Laws.RangeAny
namespace Go.Proofs.Ytknkbioalohofaa
open Go.RowKit
namespace N
/-- The rune at the head of bytes: its number, its bytes. n bytes are there. -/
def rnc (b0 b1 b2 b3 n : Nat) : Nat × Nat :=
  if b0 < 128 then (b0, 1)
  else if 192 ≤ b0 ∧ b0 < 224 then
    if 1 < n ∧ 128 ≤ b1 ∧ b1 ≤ 191 ∧ 128 ≤ 64 * (b0 - 192) + (b1 - 128) then (64 * (b0 - 192) + (b1 - 128), 2) else (65533, 1)
  else if 224 ≤ b0 ∧ b0 < 240 then
    if 1 < n ∧ 128 ≤ b1 ∧ b1 ≤ 191 ∧ 2 < n ∧ 128 ≤ b2 ∧ b2 ≤ 191 ∧ 2048 ≤ 64 * (64 * (b0 - 224) + (b1 - 128)) + (b2 - 128) ∧ (64 * (64 * (b0 - 224) + (b1 - 128)) + (b2 - 128) < 55296 ∨ 57343 < 64 * (64 * (b0 - 224) + (b1 - 128)) + (b2 - 128)) then (64 * (64 * (b0 - 224) + (b1 - 128)) + (b2 - 128), 3) else (65533, 1)
  else if 240 ≤ b0 ∧ b0 < 248 then
    if 1 < n ∧ 128 ≤ b1 ∧ b1 ≤ 191 ∧ 2 < n ∧ 128 ≤ b2 ∧ b2 ≤ 191 ∧ 3 < n ∧ 128 ≤ b3 ∧ b3 ≤ 191 ∧ 65536 ≤ 64 * (64 * (64 * (b0 - 240) + (b1 - 128)) + (b2 - 128)) + (b3 - 128) ∧ 64 * (64 * (64 * (b0 - 240) + (b1 - 128)) + (b2 - 128)) + (b3 - 128) ≤ 1114111 then (64 * (64 * (64 * (b0 - 240) + (b1 - 128)) + (b2 - 128)) + (b3 - 128), 4) else (65533, 1)
  else (65533, 1)
def rn (l : List UInt8) : Nat × Nat := rnc (l.getD 0 0).toNat (l.getD 1 0).toNat (l.getD 2 0).toNat (l.getD 3 0).toNat l.length
theorem rnc_size (b0 b1 b2 b3 n : Nat) : 1 ≤ (rnc b0 b1 b2 b3 n).2 ∧ (rnc b0 b1 b2 b3 n).2 ≤ 4 ∧ (1 ≤ n → (rnc b0 b1 b2 b3 n).2 ≤ n) := by
  unfold rnc
  repeat' split
  all_goals simp only
  all_goals omega
theorem rnc_lt (b0 b1 b2 b3 n : Nat) : (rnc b0 b1 b2 b3 n).1 ≤ 1114111 := by
  unfold rnc
  repeat' split
  all_goals simp only
  all_goals omega
theorem get_getD (s : List UInt8) (i : Nat) : (⟨s.toArray⟩ : ByteArray).get! i = s.getD i 0 := by
  show s.toArray[i]! = _
  rw [List.getD_eq_getElem?_getD]
  simp
  rfl
theorem decode_rn (s : List UInt8) (pos : Nat) (h : pos < s.length) : Utf8.decode ⟨s.toArray⟩ pos = rn (s.drop pos) := by
  have e : ∀ k, (s.drop pos).getD k 0 = s.getD (pos + k) 0 := fun k => by rw [List.getD_eq_getElem?_getD, List.getElem?_drop, List.getD_eq_getElem?_getD]
  have hl : (s.drop pos).length = s.length - pos := List.length_drop ..
  unfold rn
  simp only [Utf8.decode, get_getD, e, hl, str_size]
  have h0 := (s.getD (pos + 0) 0).toNat_lt
  have h1 := (s.getD (pos + 1) 0).toNat_lt
  have h2 := (s.getD (pos + 2) 0).toNat_lt
  have h3 := (s.getD (pos + 3) 0).toNat_lt
  generalize (s.getD (pos + 0) 0).toNat = b0 at *
  generalize (s.getD (pos + 1) 0).toNat = b1 at *
  generalize (s.getD (pos + 2) 0).toNat = b2 at *
  generalize (s.getD (pos + 3) 0).toNat = b3 at *
  generalize s.length = L at *
  clear e hl
  unfold rnc Utf8.valid Utf8.runeError
  simp only [Bool.and_eq_true, Bool.or_eq_true, decide_eq_true_eq, beq_iff_eq]
  by_cases c0 : b0 < 128
  · rw [if_pos (show b0 < 0x80 from c0), if_pos c0]
  · rw [if_neg (show ¬ b0 < 0x80 from c0), if_neg c0]
    by_cases c1 : 192 ≤ b0 ∧ b0 < 224
    · rw [if_pos c1]
      by_cases k1 : pos + 1 < L ∧ b1 / 64 = 2
      · rw [if_pos (by omega)]
        generalize hc : (b0 % 32) * 64 + b1 % 64 = c
        have hc2 : 64 * (b0 - 192) + (b1 - 128) = c := by omega
        rw [hc2]
        by_cases k2 : c ≥ 128
        · rw [if_pos k2, if_pos (by omega)]
        · rw [if_neg k2, if_neg (by omega)]
      · rw [if_neg (by omega), if_neg (by omega), if_neg (by omega), if_neg (by omega)]
    · rw [if_neg c1, if_neg (by omega)]
      by_cases c2 : 224 ≤ b0 ∧ b0 < 240
      · rw [if_pos c2]
        by_cases k1 : (pos + 1 < L ∧ b1 / 64 = 2) ∧ (pos + 2 < L ∧ b2 / 64 = 2)
        · rw [if_pos (by omega)]
          generalize hc : (b0 % 16) * 4096 + (b1 % 64) * 64 + b2 % 64 = c
          have hc2 : 64 * (64 * (b0 - 224) + (b1 - 128)) + (b2 - 128) = c := by omega
          rw [hc2]
          by_cases k2 : 2048 ≤ c ∧ (c < 55296 ∨ 57343 < c)
          · rw [if_pos (by omega), if_pos (by omega)]
          · rw [if_neg (by omega), if_neg (by omega)]
        · rw [if_neg (by omega), if_neg (by omega), if_neg (by omega)]
      · rw [if_neg c2, if_neg (by omega)]
        by_cases c3 : 240 ≤ b0 ∧ b0 < 248
        · rw [if_pos c3]
          by_cases k1 : (pos + 1 < L ∧ b1 / 64 = 2) ∧ (pos + 2 < L ∧ b2 / 64 = 2) ∧ (pos + 3 < L ∧ b3 / 64 = 2)
          · rw [if_pos (by omega)]
            generalize hc : (b0 % 8) * 262144 + (b1 % 64) * 4096 + (b2 % 64) * 64 + b3 % 64 = c
            have hc2 : 64 * (64 * (64 * (b0 - 240) + (b1 - 128)) + (b2 - 128)) + (b3 - 128) = c := by omega
            rw [hc2]
            by_cases k2 : 65536 ≤ c ∧ c ≤ 1114111
            · rw [if_pos (by omega), if_pos (by omega)]
            · rw [if_neg (by omega), if_neg (by omega)]
          · rw [if_neg (by omega), if_neg (by omega)]
        · rw [if_neg c3, if_neg (by omega)]
theorem rn_size (l : List UInt8) : 1 ≤ (rn l).2 ∧ (rn l).2 ≤ 4 ∧ (1 ≤ l.length → (rn l).2 ≤ l.length) := rnc_size ..
theorem rn_lt (l : List UInt8) : (rn l).1 ≤ 1114111 := rnc_lt ..
/-- The runes from a place on: number, place, bytes. -/
def runesFrom : Nat → List UInt8 → Nat → List (Nat × Nat × Nat)
  | 0, _, _ => []
  | f + 1, s, at_ => if at_ < s.length then ((rn (s.drop at_)).1, at_, (rn (s.drop at_)).2) :: runesFrom f s (at_ + (rn (s.drop at_)).2) else []
def runes (s : List UInt8) : List (Nat × Nat × Nat) := runesFrom s.length s 0
theorem runesFrom_end (f : Nat) (s : List UInt8) (p : Nat) (h : ¬ p < s.length) : runesFrom f s p = [] := by
  cases f with
  | zero => rfl
  | succ f => rw [runesFrom, if_neg h]
theorem runesFrom_fuel : ∀ (f g : Nat) (s : List UInt8) (p : Nat), s.length ≤ f + p → s.length ≤ g + p → runesFrom f s p = runesFrom g s p
  | 0, g, s, p, h, _ => by rw [runesFrom_end g s p (by omega)]; rfl
  | f + 1, 0, s, p, _, h => by rw [runesFrom_end (f + 1) s p (by omega)]; rfl
  | f + 1, g + 1, s, p, h1, h2 => by
    rw [runesFrom, runesFrom]
    split
    · have := rn_size (s.drop p)
      rw [runesFrom_fuel f g s _ (by omega) (by omega)]
    · rfl
/-- What is left at a place. -/
def rest (s : List UInt8) (p : Nat) : List (Nat × Nat × Nat) := runesFrom s.length s p
theorem rest_end (s : List UInt8) (p : Nat) (h : ¬ p < s.length) : rest s p = [] := runesFrom_end _ _ _ h
theorem rest_next (s : List UInt8) (p : Nat) (h : p < s.length) : rest s p = ((rn (s.drop p)).1, p, (rn (s.drop p)).2) :: rest s (p + (rn (s.drop p)).2) := by
  unfold rest
  obtain ⟨n, hn⟩ : ∃ n, s.length = n + 1 := ⟨s.length - 1, by omega⟩
  have := rn_size (s.drop p)
  rw [hn, runesFrom, if_pos h, runesFrom_fuel n (n + 1) s _ (by omega) (by omega)]
/-- Does a number lie in ranges? -/
def inB (c : Int) : List Int → Bool
  | a :: b :: t => (decide (a ≤ c) && decide (c ≤ b)) || inB c t
  | _ => false
def letterR : List Int := [97, 122, 65, 90, 192, 214, 216, 246, 248, 383, 913, 929, 931, 937, 945, 969, 1040, 1103]
def greatR : List Int := [65, 90, 192, 214, 216, 222, 913, 929, 931, 937, 1040, 1071]
def digitR : List Int := [48, 57]
def joint (c : Int) : Bool := c == 46 || c == 45 || c == 95 || c == 64 || c == 43
def kind (c : Int) : Nat := if inB c letterR then 1 else if inB c digitR then 2 else if joint c then 3 else 0
def great (c : Int) : Bool := inB c greatR
def small (c : Int) : Int := if great c then c + 32 else c
end N
end Go.Proofs.Ytknkbioalohofaa

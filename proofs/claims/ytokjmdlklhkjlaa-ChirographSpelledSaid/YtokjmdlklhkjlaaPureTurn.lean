/- Plain laws: a prefix of which a bit behind its length is turned isn't in form. No program in sight. -/
import Derived.Test.YtokjmdlklhkjlaaPureCut
namespace Go.Proofs.Ytokjmdlklhkjlaa
namespace B

/-- A bit is turned. -/
def turned (p : List UInt8) (t : Nat) : List UInt8 := p.set (t / 8) (p.getD (t / 8) 0 ^^^ UInt8.ofNat (2 ^ (7 - t % 8)))
theorem turned_length (p : List UInt8) (t : Nat) : (turned p t).length = p.length := by simp [turned]
theorem turned_bit (p : List UInt8) (t : Nat) (hp : p.length = 32) (ht : t < 256) : bit (turned p t) t = !bit p t := by
  unfold bit turned
  rw [List.getD_eq_getElem?_getD, List.getElem?_set_self (by omega), Option.getD_some, UInt8.toNat_xor, Nat.testBit_xor, UInt8.toNat_ofNat', Nat.mod_eq_of_lt (pow_lt _), pow_bit _ _ (by omega) (by omega), decide_eq_true (by omega : 7 - (7 - t % 8) = t % 8), Bool.xor_true]
theorem turned_bad (l : List UInt8) (n t : Nat) (h1 : n ≤ t) (h2 : t < 256) : good n (turned (cut l n) t) = false := by
  rw [Bool.eq_false_iff]
  intro h
  unfold good at h
  rw [Int.toNat_natCast] at h
  simp only [Bool.and_eq_true, beq_iff_eq] at h
  have hb := turned_bit (cut l n) t (cut_length _ _) h2
  rw [cut_bit _ _ _ (by omega) h2] at hb
  rw [← h.2, cut_bit _ _ _ (by omega) h2] at hb
  have : ¬ t < n := by omega
  simp [this] at hb
theorem turned_hasnt (l m : List UInt8) (n t : Nat) (h1 : n ≤ t) (h2 : t < 256) : has n (turned (cut l n) t) m = false := by
  unfold has; rw [turned_bad l n t h1 h2]; rfl
theorem turned_byte (p : List UInt8) (t : Nat) : (p.getD (t / 8) 0 ^^^ UInt8.ofNat (2 ^ (7 - t % 8))).toNat = (p.getD (t / 8) 0).toNat ^^^ 2 ^ (7 - t % 8) := by
  rw [UInt8.toNat_xor, UInt8.toNat_ofNat', Nat.mod_eq_of_lt (pow_lt _)]
theorem shr_top : ∀ r : Nat, r < 8 → (128 : Int) / 2 ^ r = ((2 ^ (7 - r) : Nat) : Int) := by decide
end B
end Go.Proofs.Ytokjmdlklhkjlaa

/- Four bytes as a word, as the walk puts them together. -/
import Derived.Test.YtgjmnhbkdccgpaaWRot
namespace Go.Proofs.Ytgjmnhbkdccgpaa
open Go.RowKit

theorem or_u32 (a b k : Nat) (ha : a * 2 ^ k < 4294967296) (hb : b < 2 ^ k) (hb2 : b < 4294967296) : bits .or .u32 ((a * 2 ^ k : Nat) : Int) (b : Int) = ((a * 2 ^ k + b : Nat) : Int) := by
  rw [u32_or_nat _ _ ha hb2, Nat.mul_comm, Nat.two_pow_add_eq_or_of_lt hb]
/-- Four bytes, as the walk puts them together. -/
structure Four (b1 b2 b3 b4 : Nat) (p1 p2 p3 p4 p5 n : Nat) : Prop where
  m1 : IntKind.u32.wrap ((b1 : Int) * 16777216) = p1
  m2 : IntKind.u32.wrap ((b2 : Int) * 65536) = p2
  m3 : IntKind.u32.wrap ((b3 : Int) * 256) = p3
  w1 : IntKind.u32.wrap (b1 : Int) = b1
  w2 : IntKind.u32.wrap (b2 : Int) = b2
  w3 : IntKind.u32.wrap (b3 : Int) = b3
  w4 : IntKind.u32.wrap (b4 : Int) = b4
  o1 : bits .or .u32 (p1 : Int) (p2 : Int) = p4
  o2 : bits .or .u32 (p4 : Int) (p3 : Int) = p5
  o3 : bits .or .u32 (p5 : Int) (b4 : Int) = n
theorem wrap_u32_in (x : Int) (h : 0 ≤ x ∧ x < 4294967296) : IntKind.u32.wrap x = x := by
  rw [IntKind.wrap_u32]; omega
theorem four_ (b1 b2 b3 b4 : Nat) (h1 : b1 < 256) (h2 : b2 < 256) (h3 : b3 < 256) (h4 : b4 < 256) : Four b1 b2 b3 b4 (b1 * 16777216) (b2 * 65536) (b3 * 256) (b1 * 16777216 + b2 * 65536) (b1 * 16777216 + b2 * 65536 + b3 * 256) (b1 * 16777216 + b2 * 65536 + b3 * 256 + b4) where
  w1 := wrap_u32_in _ (by omega)
  w2 := wrap_u32_in _ (by omega)
  w3 := wrap_u32_in _ (by omega)
  w4 := wrap_u32_in _ (by omega)
  m1 := by rw [wrap_u32_in _ (by omega)]; omega
  m2 := by rw [wrap_u32_in _ (by omega)]; omega
  m3 := by rw [wrap_u32_in _ (by omega)]; omega
  o1 := or_u32 b1 (b2 * 65536) 24 (by omega) (by omega) (by omega)
  o2 := by
    have := or_u32 (b1 * 256 + b2) (b3 * 256) 16 (by omega) (by omega) (by omega)
    rw [show (b1 * 256 + b2) * 2 ^ 16 = b1 * 16777216 + b2 * 65536 from by omega] at this
    exact this
  o3 := by
    have := or_u32 (b1 * 65536 + b2 * 256 + b3) b4 8 (by omega) (by omega) (by omega)
    rw [show (b1 * 65536 + b2 * 256 + b3) * 2 ^ 8 = b1 * 16777216 + b2 * 65536 + b3 * 256 from by omega] at this
    exact this
theorem word_four (b : List UInt8) (i : Nat) : ∃ p1 p2 p3 p4 p5, Four (b.getD (4 * i) 0).toNat (b.getD (4 * i + 1) 0).toNat (b.getD (4 * i + 2) 0).toNat (b.getD (4 * i + 3) 0).toNat p1 p2 p3 p4 p5 (S.word b i).toNat := by
  have h1 := (b.getD (4 * i) 0).toNat_lt
  have h2 := (b.getD (4 * i + 1) 0).toNat_lt
  have h3 := (b.getD (4 * i + 2) 0).toNat_lt
  have h4 := (b.getD (4 * i + 3) 0).toNat_lt
  have h := four_ _ _ _ _ h1 h2 h3 h4
  have e : (S.word b i).toNat = (b.getD (4 * i) 0).toNat * 16777216 + (b.getD (4 * i + 1) 0).toNat * 65536 + (b.getD (4 * i + 2) 0).toNat * 256 + (b.getD (4 * i + 3) 0).toNat := by
    unfold S.word
    rw [BitVec.toNat_ofNat]
    exact Nat.mod_eq_of_lt (by omega)
  rw [e]
  exact ⟨_, _, _, _, _, h⟩
end Go.Proofs.Ytgjmnhbkdccgpaa

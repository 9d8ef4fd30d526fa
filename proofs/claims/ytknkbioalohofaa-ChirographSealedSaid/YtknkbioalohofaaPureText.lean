/- Plain laws: a reader's texts; texts that are written and framed. -/
import Derived.Test.YtknkbioalohofaaPureBack
namespace Go.Proofs.Ytknkbioalohofaa
namespace D
/-- A text is read. -/
def rtext (s : List UInt8) (r : Rd) : List UInt8 × Rd :=
  if (number s r).2.err = 0 ∧ 65536 < (number s r).1 then take s (fail (number s r).2 2) (number s r).1 else take s (number s r).2 (number s r).1
theorem rtext_back (t : List UInt8) (ht : t.length ≤ 65536) : rtext (numB t.length ++ t) ⟨0, 0⟩ = (t, ⟨(numB t.length ++ t).length, 0⟩) := by
  have h := number_back [] t t.length (by omega)
  rw [List.nil_append, show ([] : List UInt8).length = 0 from rfl, Nat.zero_add] at h
  unfold rtext
  rw [h, if_neg (by simp only; omega)]
  have h2 := take_mid (numB t.length) t []
  rw [List.append_nil] at h2
  simp only
  rw [h2, List.length_append]
end D
end Go.Proofs.Ytknkbioalohofaa

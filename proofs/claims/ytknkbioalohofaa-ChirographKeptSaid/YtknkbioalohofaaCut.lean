/- Texts and bytes as arguments; the walk of the layers' Cut. -/
import Derived.Test.YtknkbioalohofaaKit3
import Derived.Test.YtknkbioalohofaaRow
namespace Go.Proofs.Ytknkbioalohofaa
open Go.ChangeShapes Go.WideShapes Go.ChangeAt Go.RowKit

section
variable {H : Type} {enc : TypeId × Value → H} {W : World} {base : Nat} {sp : Nat → Bool} {held : Bool} {v : Value} {d : DataW H} {p : List MemPlace}
set_option maxRecDepth 1000000 in
theorem open_text (hval : Value.okWide Try.prog W .any base 9 v) (h : DataW.Trod enc Try.prog W 0 sp held 9 v d p) : ∃ l : List UInt8, v = .string ⟨l.toArray⟩ ∧ l.length ≤ 9223372036854775807 := by
  obtain ⟨s, rfl, _, _, hs⟩ := Go.ChangeMaps.open_string Try.underlying9 hval h
  refine ⟨s.data.toList, rfl, ?_⟩
  rw [Array.length_toList]
  unfold maxLen at hs
  exact hs
set_option maxRecDepth 1000000 in
theorem open_byte (hval : Value.okWide Try.prog W .any base 5 v) (h : DataW.Trod enc Try.prog W 0 sp held 5 v d p) : ∃ b : UInt8, v = byteV b := by
  obtain ⟨n, rfl, _, _, hwf⟩ := open_int Try.underlying5 hval h
  have h2 := hwf
  simp only [Lit.wf, IntKind.min, IntKind.max, IntKind.signed, IntKind.bits, Bool.and_eq_true] at h2
  have h0 : 0 ≤ n := by have := h2.1; simpa using this
  have h1 : n ≤ 255 := by have := h2.2; simpa using this
  refine ⟨UInt8.ofNat n.toNat, ?_⟩
  unfold byteV
  rw [UInt8.toNat_ofNat']
  congr 1
  omega
end
set_option maxHeartbeats 1000000 in
/-- Cut. -/
theorem lcut_any (s : List UInt8) (n : Nat) (w : World) :
    Calls Try.prog 19 #[.string ⟨s.toArray⟩, .int .i64 (n : Int)] w fun e w' => e = .returned (.string ⟨(s.take n).toArray⟩) ∧ w = w' := by
  have hz := str_size s
  by_cases h : n < s.length
  · have d1 : decide ((n : Int) < ((⟨s.toArray⟩ : ByteArray).size : Int)) = true := by rw [hz]; simp; omega
    have d1' : decide (n < (⟨s.toArray⟩ : ByteArray).size) = true := by rw [hz]; simp; omega
    have hcut := str_upto_ s n (n : Int) rfl (by omega)
    clear hz h
    generalize s.take n = t at *
    generalize (⟨s.toArray⟩ : ByteArray) = S at *
    go_enter Try.func19, Try.ntmps19
    go_wp2
    go_ret
    exact ⟨rfl, rfl⟩
  · have d1 : decide ((n : Int) < ((⟨s.toArray⟩ : ByteArray).size : Int)) = false := by rw [hz]; simp; omega
    have d1' : decide (n < (⟨s.toArray⟩ : ByteArray).size) = false := by rw [hz]; simp; omega
    have Ht := Lib.hid (List.take_of_length_le (show s.length ≤ n by omega))
    clear hz h
    generalize hS : (⟨s.toArray⟩ : ByteArray) = S at *
    have HS := Lib.hid hS
    clear hS
    go_enter Try.func19, Try.ntmps19
    go_wp2
    go_ret
    rw [Ht.out, HS.out]
    exact ⟨rfl, rfl⟩
end Go.Proofs.Ytknkbioalohofaa

/- ChirographSealed: texts that are framed, opened and read have the sums that they had. No condition. -/
import Derived.Test.YtknkbioalohofaaSealedW
namespace Go.Proofs.Ytknkbioalohofaa
open Go.ChangeShapes Go.WideShapes Go.ChangeAt Go.RowKit

set_option maxRecDepth 1000000 in
theorem sealed_law : LawHolds 8 Try.f8 := by
  intro H enc W base args ds p hval hA
  rw [Try.params8] at hA hval
  obtain ⟨v0, vs0, d0, ds0, p0, q0, hargs, rfl, rfl, k0, r0⟩ := trodAll_cons hA
  obtain ⟨v1, vs1, d1, ds1, p1, q1, rfl, rfl, rfl, k1, r1⟩ := trodAll_cons r0
  obtain ⟨rfl, rfl, rfl⟩ := trodAll_nil r1
  obtain rfl : args = #[v0, v1] := by cases args; simp_all
  obtain ⟨ts, hts, _, _⟩ := open_texts (hval 0 35 v0 rfl rfl) k0
  obtain ⟨k, rfl, _⟩ := open_text (hval 1 9 v1 rfl rfl) k1
  exact sealed_walk ts v0 k W hts

theorem sealed_lifted (os : Os) (started : os.Started) (H : Type) (enc : TypeId × Value → H) :
    ReturnsInHanded {} Try.checked os 8 .any (Rows.chirographSealedSpec.pre6 enc Try.prog Try.f8 Rows.chirographSealedRow.domain false) (Rows.chirographSealedSpec.post enc Try.prog Try.f8 false true false false) :=
  lifted_of started (by kernel_rfl) Try.func8
    (ChangeSpec.witness6 (enc := enc) (C := Try.checked) false ⟨#[], #[.slice none 0 0, .string ⟨#[]⟩], []⟩ 8 (by kernel_rfl) (by kernel_rfl) (by kernel_rfl) (by kernel_rfl))
    rfl (by kernel_rfl) (fun ds h => by rw [Try.params8] at h; match ds, h with | [_, _], _ => rfl) (by rw [Try.params8]; exact of_decide_eq_true (by kernel_rfl)) sealed_law
theorem sealed_over : Rows.chirographSealedRow.holds Try.pinned (OpenSpec.ofChange Rows.chirographSealedSpec) :=
  OpenClaim.holds_of_wide 8 Try.f8 rfl rfl rfl rfl rfl rfl rfl ⟨rfl, rfl, rfl, rfl, rfl⟩ rfl rfl rfl rfl rfl (by kernel_rfl) Try.func8 (by kernel_rfl)
    (of_decide_eq_true (by kernel_rfl)) (by unfold Func.isWrapper; first | (rw [if_pos (by decide +kernel)]; kernel_rfl) | (rw [if_neg (by decide +kernel)]; exact ⟨rfl, rfl⟩))
    (fun os started H enc _ => sealed_lifted os started H enc)
/-- The statement. -/
theorem sealed_proved : Rows.ChirographSealedSaid := sealed_over
#print axioms sealed_proved
end Go.Proofs.Ytknkbioalohofaa

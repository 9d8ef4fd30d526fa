/- DiskApart: what is done to one file changes nothing of another one. No condition. -/
import Derived.Test.YtknkbioalohofaaDkApartW
import Derived.Test.YtknkbioalohofaaDiskApartF
namespace Go.Proofs.Ytknkbioalohofaa
open Go.ChangeShapes Go.WideShapes Go.ChangeAt Go.RowKit

set_option maxRecDepth 1000000 in
theorem dapart_law : LawHolds 12 Try.f12 := by
  intro H enc W base args ds p hval hA
  rw [Try.params12] at hA hval
  obtain ⟨v0, vs0, d0, ds0, p0, q0, hargs, rfl, rfl, k0, r0⟩ := trodAll_cons hA
  obtain ⟨v1, vs1, d1, ds1, p1, q1, rfl, rfl, rfl, k1, r1⟩ := trodAll_cons r0
  obtain ⟨rfl, rfl, rfl⟩ := trodAll_nil r1
  obtain rfl : args = #[v0, v1] := by cases args; simp_all
  obtain ⟨b, rfl, _⟩ := open_text (hval 0 9 v0 rfl rfl) k0
  obtain ⟨l, hl⟩ := open_acts (hval 1 69 v1 rfl rfl) k1
  exact dapart_walk b l v1 W hl

theorem dapart_lifted (os : Os) (started : os.Started) (H : Type) (enc : TypeId × Value → H) :
    ReturnsInHanded {} Try.checked os 12 .any (Rows.diskApartSpec.pre6 enc Try.prog Try.f12 Rows.diskApartRow.domain false) (Rows.diskApartSpec.post enc Try.prog Try.f12 false true false false) :=
  lifted_of started (by kernel_rfl) Try.func12
    (ChangeSpec.witness6 (enc := enc) (C := Try.checked) false ⟨#[], #[.string ⟨#[]⟩, .slice none 0 0], []⟩ 8 (by kernel_rfl) (by kernel_rfl) (by kernel_rfl) (by kernel_rfl))
    rfl (by kernel_rfl) (fun ds h => by rw [Try.params12] at h; match ds, h with | [_, _], _ => rfl) (by rw [Try.params12]; exact of_decide_eq_true (by kernel_rfl)) dapart_law
theorem dapart_over : Rows.diskApartRow.holds Try.pinned (OpenSpec.ofChange Rows.diskApartSpec) :=
  OpenClaim.holds_of_wide 12 Try.f12 rfl rfl rfl rfl rfl rfl rfl ⟨rfl, rfl, rfl, rfl, rfl⟩ rfl rfl rfl rfl rfl dapart_named Try.func12 dapart_closed
    (of_decide_eq_true (by kernel_rfl)) (by unfold Func.isWrapper; first | (rw [if_pos (by decide +kernel)]; kernel_rfl) | (rw [if_neg (by decide +kernel)]; exact ⟨rfl, rfl⟩))
    (fun os started H enc _ => dapart_lifted os started H enc)
/-- The statement. -/
theorem dapart_proved : Rows.DiskApartSaid := dapart_over
#print axioms dapart_proved
end Go.Proofs.Ytknkbioalohofaa

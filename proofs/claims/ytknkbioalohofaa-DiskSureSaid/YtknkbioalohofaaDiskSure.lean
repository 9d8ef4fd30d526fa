/- DiskSure: what was made sure stays, whatever crashes. No condition. -/
import Derived.Test.YtknkbioalohofaaDkSureW
import Derived.Test.YtknkbioalohofaaOpenI
namespace Go.Proofs.Ytknkbioalohofaa
open Go.ChangeShapes Go.WideShapes Go.ChangeAt Go.RowKit

set_option maxRecDepth 1000000 in
theorem dsure_law : LawHolds 9 Try.f9 := by
  intro H enc W base args ds p hval hA
  rw [Try.params9] at hA hval
  obtain ⟨v0, vs0, d0, ds0, p0, q0, hargs, rfl, rfl, k0, r0⟩ := trodAll_cons hA
  obtain ⟨v1, vs1, d1, ds1, p1, q1, rfl, rfl, rfl, k1, r1⟩ := trodAll_cons r0
  obtain ⟨v2, vs2, d2, ds2, p2, q2, rfl, rfl, rfl, k2, r2⟩ := trodAll_cons r1
  obtain ⟨v3, vs3, d3, ds3, p3, q3, rfl, rfl, rfl, k3, r3⟩ := trodAll_cons r2
  obtain ⟨rfl, rfl, rfl⟩ := trodAll_nil r3
  obtain rfl : args = #[v0, v1, v2, v3] := by cases args; simp_all
  obtain ⟨b, rfl, _⟩ := open_text (hval 0 9 v0 rfl rfl) k0
  obtain ⟨ts, hts, _, _⟩ := open_texts (hval 1 35 v1 rfl rfl) k1
  obtain ⟨la, hla, _, hwa⟩ := open_nums (hval 2 39 v2 rfl rfl) k2
  obtain ⟨lk, hlk, _, hwk⟩ := open_nums (hval 3 39 v3 rfl rfl) k3
  exact dsure_walk b ts la lk v1 v2 v3 W hts hla hlk hwa hwk

theorem dsure_lifted (os : Os) (started : os.Started) (H : Type) (enc : TypeId × Value → H) :
    ReturnsInHanded {} Try.checked os 9 .any (Rows.diskSureSpec.pre6 enc Try.prog Try.f9 Rows.diskSureRow.domain false) (Rows.diskSureSpec.post enc Try.prog Try.f9 false true false false) :=
  lifted_of started (by kernel_rfl) Try.func9
    (ChangeSpec.witness6 (enc := enc) (C := Try.checked) false ⟨#[], #[.string ⟨#[]⟩, .slice none 0 0, .slice none 0 0, .slice none 0 0], []⟩ 8 (by kernel_rfl) (by kernel_rfl) (by kernel_rfl) (by kernel_rfl))
    rfl (by kernel_rfl) (fun ds h => by rw [Try.params9] at h; match ds, h with | [_, _, _, _], _ => rfl) (by rw [Try.params9]; exact of_decide_eq_true (by kernel_rfl)) dsure_law
theorem dsure_over : Rows.diskSureRow.holds Try.pinned (OpenSpec.ofChange Rows.diskSureSpec) :=
  OpenClaim.holds_of_wide 9 Try.f9 rfl rfl rfl rfl rfl rfl rfl ⟨rfl, rfl, rfl, rfl, rfl⟩ rfl rfl rfl rfl rfl (by kernel_rfl) Try.func9 (by kernel_rfl)
    (of_decide_eq_true (by kernel_rfl)) (by unfold Func.isWrapper; first | (rw [if_pos (by decide +kernel)]; kernel_rfl) | (rw [if_neg (by decide +kernel)]; exact ⟨rfl, rfl⟩))
    (fun os started H enc _ => dsure_lifted os started H enc)
/-- The statement. -/
theorem dsure_proved : Rows.DiskSureSaid := dsure_over
#print axioms dsure_proved
end Go.Proofs.Ytknkbioalohofaa

/- DiskPlays: behind any calls the files are just those that the page says. No condition. -/
import Derived.Test.YtknkbioalohofaaDrPlaysW
import Derived.Test.YtknkbioalohofaaDiskPlaysF
import Derived.Test.YtknkbioalohofaaOpenI
namespace Go.Proofs.Ytknkbioalohofaa
open Go.ChangeShapes Go.WideShapes Go.ChangeAt Go.RowKit

set_option maxRecDepth 1000000 in
theorem dplays_law : LawHolds 13 Try.f13 := by
  intro H enc W base args ds p hval hA
  rw [Try.params13] at hA hval
  obtain ⟨v0, vs0, d0, ds0, p0, q0, hargs, rfl, rfl, k0, r0⟩ := trodAll_cons hA
  obtain ⟨v1, vs1, d1, ds1, p1, q1, rfl, rfl, rfl, k1, r1⟩ := trodAll_cons r0
  obtain ⟨rfl, rfl, rfl⟩ := trodAll_nil r1
  obtain rfl : args = #[v0, v1] := by cases args; simp_all
  obtain ⟨n, rfl, _, _, hwf⟩ := open_int Try.underlying3 (hval 0 3 v0 rfl rfl) k0
  obtain ⟨l, hl⟩ := open_acts (hval 1 69 v1 rfl rfl) k1
  exact dplays_walk n (wf_i64 hwf) l v1 W hl

theorem dplays_lifted (os : Os) (started : os.Started) (H : Type) (enc : TypeId × Value → H) :
    ReturnsInHanded {} Try.checked os 13 .any (Rows.diskPlaysSpec.pre6 enc Try.prog Try.f13 Rows.diskPlaysRow.domain false) (Rows.diskPlaysSpec.post enc Try.prog Try.f13 false true false false) :=
  lifted_of started (by kernel_rfl) Try.func13
    (ChangeSpec.witness6 (enc := enc) (C := Try.checked) false ⟨#[], #[.int .i64 0, .slice none 0 0], []⟩ 8 (by kernel_rfl) (by kernel_rfl) (by kernel_rfl) (by kernel_rfl))
    rfl (by kernel_rfl) (fun ds h => by rw [Try.params13] at h; match ds, h with | [_, _], _ => rfl) (by rw [Try.params13]; exact of_decide_eq_true (by kernel_rfl)) dplays_law
theorem dplays_over : Rows.diskPlaysRow.holds Try.pinned (OpenSpec.ofChange Rows.diskPlaysSpec) :=
  OpenClaim.holds_of_wide 13 Try.f13 rfl rfl rfl rfl rfl rfl rfl ⟨rfl, rfl, rfl, rfl, rfl⟩ rfl rfl rfl rfl rfl dplays_named Try.func13 dplays_closed
    (of_decide_eq_true (by kernel_rfl)) (by unfold Func.isWrapper; first | (rw [if_pos (by decide +kernel)]; kernel_rfl) | (rw [if_neg (by decide +kernel)]; exact ⟨rfl, rfl⟩))
    (fun os started H enc _ => dplays_lifted os started H enc)
/-- The statement. -/
theorem dplays_proved : Rows.DiskPlaysSaid := dplays_over
#print axioms dplays_proved
end Go.Proofs.Ytknkbioalohofaa

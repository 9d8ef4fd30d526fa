/- ChirographLevels: tables of level 0, put together as the jobs say, leave of each key the newest entry. No condition. -/
import Derived.Test.YtnfabofkfnmplaaLvV
import Derived.Test.YtnfabofkfnmplaaLvOp
namespace Go.Proofs.Ytnfabofkfnmplaa
open Go.ChangeShapes Go.WideShapes Go.ChangeAt Go.RowKit

set_option maxRecDepth 1000000 in
theorem levels_law : LawHolds 3 Try.f3 := by
  intro H enc W base args ds p hval hA
  rw [Try.params3] at hA hval
  obtain ⟨v0, vs0, d0, ds0, p0, q0, hargs, rfl, rfl, k0, r0⟩ := trodAll_cons hA
  obtain ⟨v1, vs1, d1, ds1, p1, q1, rfl, rfl, rfl, k1, r1⟩ := trodAll_cons r0
  obtain ⟨v2, vs2, d2, ds2, p2, q2, rfl, rfl, rfl, k2, r2⟩ := trodAll_cons r1
  obtain ⟨rfl, rfl, rfl⟩ := trodAll_nil r2
  obtain rfl : args = #[v0, v1, v2] := by cases args; simp_all
  obtain ⟨vs, ls, h, hr⟩ := open_rows (hval 0 22 v0 rfl rfl) k0
  obtain ⟨x, rfl, _, _, _⟩ := open_int Try.underlying3 (hval 1 3 v1 rfl rfl) k1
  obtain ⟨y, rfl, _, _, _⟩ := open_int Try.underlying3 (hval 2 3 v2 rfl rfl) k2
  exact levels_any ls vs v0 x y W h hr

theorem levels_lifted (os : Os) (started : os.Started) (H : Type) (enc : TypeId × Value → H) :
    ReturnsInHanded {} Try.checked os 3 .any (Rows.chirographLevelsSpec.pre6 enc Try.prog Try.f3 Rows.chirographLevelsRow.domain false) (Rows.chirographLevelsSpec.post enc Try.prog Try.f3 false true false false) :=
  lifted_of started (by kernel_rfl) Try.func3
    (ChangeSpec.witness6 (enc := enc) (C := Try.checked) false ⟨#[], #[.slice none 0 0, .int .i64 0, .int .i64 0], []⟩ 8 (by kernel_rfl) (by kernel_rfl) (by kernel_rfl) (by kernel_rfl))
    rfl (by kernel_rfl) (fun ds h => by rw [Try.params3] at h; match ds, h with | [_, _, _], _ => rfl) (by rw [Try.params3]; exact of_decide_eq_true (by kernel_rfl)) levels_law
theorem levels_over : Rows.chirographLevelsRow.holds Try.pinned (OpenSpec.ofChange Rows.chirographLevelsSpec) :=
  OpenClaim.holds_of_wide 3 Try.f3 rfl rfl rfl rfl rfl rfl rfl ⟨rfl, rfl, rfl, rfl, rfl⟩ rfl rfl rfl rfl rfl (by kernel_rfl) Try.func3 (by kernel_rfl)
    (of_decide_eq_true (by kernel_rfl)) (by unfold Func.isWrapper; first | (rw [if_pos (by decide +kernel)]; kernel_rfl) | (rw [if_neg (by decide +kernel)]; exact ⟨rfl, rfl⟩))
    (fun os started H enc _ => levels_lifted os started H enc)
/-- The statement. -/
theorem levels_proved : Rows.ChirographLevelsSaid := levels_over
#print axioms levels_proved
end Go.Proofs.Ytnfabofkfnmplaa

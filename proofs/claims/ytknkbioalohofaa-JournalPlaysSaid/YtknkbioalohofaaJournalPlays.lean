/- JournalPlays: behind any crash the texts are those that were added safely, and perhaps one more. No condition. -/
import Derived.Test.YtknkbioalohofaaJrPlaysW
import Derived.Test.YtknkbioalohofaaJrnPlaysF
namespace Go.Proofs.Ytknkbioalohofaa
open Go.ChangeShapes Go.WideShapes Go.ChangeAt Go.RowKit

set_option maxRecDepth 1000000 in
theorem jplays_law : LawHolds 17 Try.f17 := by
  intro H enc W base args ds p hval hA
  rw [Try.params17] at hA hval
  obtain ⟨v0, vs0, d0, ds0, p0, q0, hargs, rfl, rfl, k0, r0⟩ := trodAll_cons hA
  obtain ⟨v1, vs1, d1, ds1, p1, q1, rfl, rfl, rfl, k1, r1⟩ := trodAll_cons r0
  obtain ⟨rfl, rfl, rfl⟩ := trodAll_nil r1
  obtain rfl : args = #[v0, v1] := by cases args; simp_all
  obtain ⟨n, rfl, _, _, hwf⟩ := open_int Try.underlying3 (hval 0 3 v0 rfl rfl) k0
  obtain ⟨l, hl⟩ := open_acts7 (hval 1 94 v1 rfl rfl) k1
  exact jplays_walk n (wf_i64 hwf) l v1 W hl

theorem jplays_lifted (os : Os) (started : os.Started) (H : Type) (enc : TypeId × Value → H) :
    ReturnsInHanded {} Try.checked os 17 .any (Rows.journalPlaysSpec.pre6 enc Try.prog Try.f17 Rows.journalPlaysRow.domain false) (Rows.journalPlaysSpec.post enc Try.prog Try.f17 false true false false) :=
  lifted_of started (by kernel_rfl) Try.func17
    (ChangeSpec.witness6 (enc := enc) (C := Try.checked) false ⟨#[], #[.int .i64 0, .slice none 0 0], []⟩ 8 (by kernel_rfl) (by kernel_rfl) (by kernel_rfl) (by kernel_rfl))
    rfl (by kernel_rfl) (fun ds h => by rw [Try.params17] at h; match ds, h with | [_, _], _ => rfl) (by rw [Try.params17]; exact of_decide_eq_true (by kernel_rfl)) jplays_law
theorem jplays_over : Rows.journalPlaysRow.holds Try.pinned (OpenSpec.ofChange Rows.journalPlaysSpec) :=
  OpenClaim.holds_of_wide 17 Try.f17 rfl rfl rfl rfl rfl rfl rfl ⟨rfl, rfl, rfl, rfl, rfl⟩ rfl rfl rfl rfl rfl jplays_named Try.func17 jplays_closed
    (of_decide_eq_true (by kernel_rfl)) (by unfold Func.isWrapper; first | (rw [if_pos (by decide +kernel)]; kernel_rfl) | (rw [if_neg (by decide +kernel)]; exact ⟨rfl, rfl⟩))
    (fun os started H enc _ => jplays_lifted os started H enc)
/-- The statement. -/
theorem jplays_proved : Rows.JournalPlaysSaid := jplays_over
#print axioms jplays_proved
end Go.Proofs.Ytknkbioalohofaa

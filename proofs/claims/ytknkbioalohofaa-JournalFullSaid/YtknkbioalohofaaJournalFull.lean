/- JournalFull: a text for which there is no room changes nothing. No condition. -/
import Derived.Test.YtknkbioalohofaaJrFullW
import Derived.Test.YtknkbioalohofaaJrnFullF
import Derived.Test.YtknkbioalohofaaOpenT
import Derived.Test.YtknkbioalohofaaOpenI
namespace Go.Proofs.Ytknkbioalohofaa
open Go.ChangeShapes Go.WideShapes Go.ChangeAt Go.RowKit

set_option maxRecDepth 1000000 in
theorem jfull_law : LawHolds 15 Try.f15 := by
  intro H enc W base args ds p hval hA
  rw [Try.params15] at hA hval
  obtain ⟨v0, vs0, d0, ds0, p0, q0, hargs, rfl, rfl, k0, r0⟩ := trodAll_cons hA
  obtain ⟨v1, vs1, d1, ds1, p1, q1, rfl, rfl, rfl, k1, r1⟩ := trodAll_cons r0
  obtain ⟨rfl, rfl, rfl⟩ := trodAll_nil r1
  obtain rfl : args = #[v0, v1] := by cases args; simp_all
  obtain ⟨n, rfl, _, _, hwf⟩ := open_int Try.underlying3 (hval 0 3 v0 rfl rfl) k0
  obtain ⟨ts, hts, hl, _⟩ := open_texts (hval 1 35 v1 rfl rfl) k1
  exact jfull_walk n (wf_i64 hwf) ts v1 W hts hl

theorem jfull_lifted (os : Os) (started : os.Started) (H : Type) (enc : TypeId × Value → H) :
    ReturnsInHanded {} Try.checked os 15 .any (Rows.journalFullSpec.pre6 enc Try.prog Try.f15 Rows.journalFullRow.domain false) (Rows.journalFullSpec.post enc Try.prog Try.f15 false true false false) :=
  lifted_of started (by kernel_rfl) Try.func15
    (ChangeSpec.witness6 (enc := enc) (C := Try.checked) false ⟨#[], #[.int .i64 0, .slice none 0 0], []⟩ 8 (by kernel_rfl) (by kernel_rfl) (by kernel_rfl) (by kernel_rfl))
    rfl (by kernel_rfl) (fun ds h => by rw [Try.params15] at h; match ds, h with | [_, _], _ => rfl) (by rw [Try.params15]; exact of_decide_eq_true (by kernel_rfl)) jfull_law
theorem jfull_over : Rows.journalFullRow.holds Try.pinned (OpenSpec.ofChange Rows.journalFullSpec) :=
  OpenClaim.holds_of_wide 15 Try.f15 rfl rfl rfl rfl rfl rfl rfl ⟨rfl, rfl, rfl, rfl, rfl⟩ rfl rfl rfl rfl rfl jfull_named Try.func15 jfull_closed
    (of_decide_eq_true (by kernel_rfl)) (by unfold Func.isWrapper; first | (rw [if_pos (by decide +kernel)]; kernel_rfl) | (rw [if_neg (by decide +kernel)]; exact ⟨rfl, rfl⟩))
    (fun os started H enc _ => jfull_lifted os started H enc)
/-- The statement. -/
theorem jfull_proved : Rows.JournalFullSaid := jfull_over
#print axioms jfull_proved
end Go.Proofs.Ytknkbioalohofaa

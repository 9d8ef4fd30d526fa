/- JournalKeeps: what was added is there whenever it is opened. No condition. -/
import Derived.Test.YtknkbioalohofaaJrKeepsW
import Derived.Test.YtknkbioalohofaaJrnKeepsF
import Derived.Test.YtknkbioalohofaaOpenT
namespace Go.Proofs.Ytknkbioalohofaa
open Go.ChangeShapes Go.WideShapes Go.ChangeAt Go.RowKit

set_option maxRecDepth 1000000 in
theorem jkeeps_law : LawHolds 14 Try.f14 := by
  intro H enc W base args ds p hval hA
  rw [Try.params14] at hA hval
  obtain ⟨v0, vs0, d0, ds0, p0, q0, hargs, rfl, rfl, k0, r0⟩ := trodAll_cons hA
  obtain ⟨v1, vs1, d1, ds1, p1, q1, rfl, rfl, rfl, k1, r1⟩ := trodAll_cons r0
  obtain ⟨rfl, rfl, rfl⟩ := trodAll_nil r1
  obtain rfl : args = #[v0, v1] := by cases args; simp_all
  obtain ⟨ts, hts, hl, _⟩ := open_texts (hval 0 35 v0 rfl rfl) k0
  obtain ⟨bs, hbs, _⟩ := open_truths (hval 1 87 v1 rfl rfl) k1
  exact jkeeps_walk ts bs v0 v1 W hts hl hbs

theorem jkeeps_lifted (os : Os) (started : os.Started) (H : Type) (enc : TypeId × Value → H) :
    ReturnsInHanded {} Try.checked os 14 .any (Rows.journalKeepsSpec.pre6 enc Try.prog Try.f14 Rows.journalKeepsRow.domain false) (Rows.journalKeepsSpec.post enc Try.prog Try.f14 false true false false) :=
  lifted_of started (by kernel_rfl) Try.func14
    (ChangeSpec.witness6 (enc := enc) (C := Try.checked) false ⟨#[], #[.slice none 0 0, .slice none 0 0], []⟩ 8 (by kernel_rfl) (by kernel_rfl) (by kernel_rfl) (by kernel_rfl))
    rfl (by kernel_rfl) (fun ds h => by rw [Try.params14] at h; match ds, h with | [_, _], _ => rfl) (by rw [Try.params14]; exact of_decide_eq_true (by kernel_rfl)) jkeeps_law
theorem jkeeps_over : Rows.journalKeepsRow.holds Try.pinned (OpenSpec.ofChange Rows.journalKeepsSpec) :=
  OpenClaim.holds_of_wide 14 Try.f14 rfl rfl rfl rfl rfl rfl rfl ⟨rfl, rfl, rfl, rfl, rfl⟩ rfl rfl rfl rfl rfl jkeeps_named Try.func14 jkeeps_closed
    (of_decide_eq_true (by kernel_rfl)) (by unfold Func.isWrapper; first | (rw [if_pos (by decide +kernel)]; kernel_rfl) | (rw [if_neg (by decide +kernel)]; exact ⟨rfl, rfl⟩))
    (fun os started H enc _ => jkeeps_lifted os started H enc)
/-- The statement. -/
theorem jkeeps_proved : Rows.JournalKeepsSaid := jkeeps_over
#print axioms jkeeps_proved
end Go.Proofs.Ytknkbioalohofaa

/- ChirographKept: frames that were made sure are there behind a crash. -/
import Derived.Test.YtknkbioalohofaaKeptW
import Derived.Test.YtknkbioalohofaaKeptF
import Derived.Test.YtknkbioalohofaaCut
namespace Go.Proofs.Ytknkbioalohofaa
open Go.ChangeShapes Go.WideShapes Go.ChangeAt Go.RowKit

set_option maxRecDepth 1000000 in
theorem kept_law : LawHolds 18 Try.f18 := by
  intro H enc W base args ds p hval hA
  rw [Try.params18] at hA hval
  obtain ⟨v0, vs0, d0, ds0, p0, q0, hargs, rfl, rfl, k0, r0⟩ := trodAll_cons hA
  obtain ⟨v1, vs1, d1, ds1, p1, q1, rfl, rfl, rfl, k1, r1⟩ := trodAll_cons r0
  obtain ⟨v2, vs2, d2, ds2, p2, q2, rfl, rfl, rfl, k2, r2⟩ := trodAll_cons r1
  obtain ⟨v3, vs3, d3, ds3, p3, q3, rfl, rfl, rfl, k3, r3⟩ := trodAll_cons r2
  obtain ⟨rfl, rfl, rfl⟩ := trodAll_nil r3
  obtain rfl : args = #[v0, v1, v2, v3] := by cases args; simp_all
  obtain ⟨ids, hids, _, _⟩ := open_texts (hval 0 35 v0 rfl rfl) k0
  obtain ⟨ts, hts, _, _⟩ := open_texts (hval 1 35 v1 rfl rfl) k1
  obtain ⟨ss, hss, _⟩ := open_truths (hval 2 87 v2 rfl rfl) k2
  obtain ⟨lk, hlk, hkl, hwk⟩ := open_nums (hval 3 39 v3 rfl rfl) k3
  exact kept_walk ids ts ss lk v0 v1 v2 v3 W hids hts hss hlk hwk hkl

theorem kept_lifted (os : Os) (started : os.Started) (H : Type) (enc : TypeId × Value → H) :
    ReturnsInHanded {} Try.checked os 18 .any (Rows.chirographKeptSpec.pre6 enc Try.prog Try.f18 Rows.chirographKeptRow.domain false) (Rows.chirographKeptSpec.post enc Try.prog Try.f18 false true false false) :=
  lifted_of started (by kernel_rfl) Try.func18
    (ChangeSpec.witness6 (enc := enc) (C := Try.checked) false ⟨#[], #[.slice none 0 0, .slice none 0 0, .slice none 0 0, .slice none 0 0], []⟩ 8 (by kernel_rfl) (by kernel_rfl) (by kernel_rfl) (by kernel_rfl))
    rfl (by kernel_rfl) (fun ds h => by rw [Try.params18] at h; match ds, h with | [_, _, _, _], _ => rfl) (by rw [Try.params18]; exact of_decide_eq_true (by kernel_rfl)) kept_law
theorem kept_over : Rows.chirographKeptRow.holds Try.pinned (OpenSpec.ofChange Rows.chirographKeptSpec) :=
  OpenClaim.holds_of_wide 18 Try.f18 rfl rfl rfl rfl rfl rfl rfl ⟨rfl, rfl, rfl, rfl, rfl⟩ rfl rfl rfl rfl rfl kept_named Try.func18 kept_closed
    (of_decide_eq_true (by kernel_rfl)) (by unfold Func.isWrapper; first | (rw [if_pos (by decide +kernel)]; kernel_rfl) | (rw [if_neg (by decide +kernel)]; exact ⟨rfl, rfl⟩))
    (fun os started H enc _ => kept_lifted os started H enc)
/-- The statement. -/
theorem kept_proved : Rows.ChirographKeptSaid := kept_over
#print axioms kept_proved
end Go.Proofs.Ytknkbioalohofaa

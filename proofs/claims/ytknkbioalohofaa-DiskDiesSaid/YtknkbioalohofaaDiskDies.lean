/- DiskDies: a disk that is armed does so many deeds, and not the next. No condition. -/
import Derived.Test.YtknkbioalohofaaDkDiesW
namespace Go.Proofs.Ytknkbioalohofaa
open Go.ChangeShapes Go.WideShapes Go.ChangeAt Go.RowKit

theorem wf_i64 {n : Int} (h : (Lit.int .i64 n).wf = true) : -9223372036854775808 ≤ n ∧ n < 9223372036854775808 := by
  simp only [Lit.wf, IntKind.min, IntKind.max, IntKind.signed, IntKind.bits, Bool.and_eq_true] at h
  have h0 := h.1
  have h1 := h.2
  simp at h0 h1
  omega
set_option maxRecDepth 1000000 in
theorem ddies_law : LawHolds 11 Try.f11 := by
  intro H enc W base args ds p hval hA
  rw [Try.params11] at hA hval
  obtain ⟨v0, vs0, d0, ds0, p0, q0, hargs, rfl, rfl, k0, r0⟩ := trodAll_cons hA
  obtain ⟨v1, vs1, d1, ds1, p1, q1, rfl, rfl, rfl, k1, r1⟩ := trodAll_cons r0
  obtain ⟨v2, vs2, d2, ds2, p2, q2, rfl, rfl, rfl, k2, r2⟩ := trodAll_cons r1
  obtain ⟨rfl, rfl, rfl⟩ := trodAll_nil r2
  obtain rfl : args = #[v0, v1, v2] := by cases args; simp_all
  obtain ⟨n, rfl, _, _, hwf⟩ := open_int Try.underlying3 (hval 0 3 v0 rfl rfl) k0
  obtain ⟨a, rfl, _⟩ := open_text (hval 1 9 v1 rfl rfl) k1
  obtain ⟨b, rfl, _⟩ := open_text (hval 2 9 v2 rfl rfl) k2
  exact ddies_walk n (wf_i64 hwf) a b W

theorem ddies_lifted (os : Os) (started : os.Started) (H : Type) (enc : TypeId × Value → H) :
    ReturnsInHanded {} Try.checked os 11 .any (Rows.diskDiesSpec.pre6 enc Try.prog Try.f11 Rows.diskDiesRow.domain false) (Rows.diskDiesSpec.post enc Try.prog Try.f11 false true false false) :=
  lifted_of started (by kernel_rfl) Try.func11
    (ChangeSpec.witness6 (enc := enc) (C := Try.checked) false ⟨#[], #[.int .i64 0, .string ⟨#[]⟩, .string ⟨#[]⟩], []⟩ 8 (by kernel_rfl) (by kernel_rfl) (by kernel_rfl) (by kernel_rfl))
    rfl (by kernel_rfl) (fun ds h => by rw [Try.params11] at h; match ds, h with | [_, _, _], _ => rfl) (by rw [Try.params11]; exact of_decide_eq_true (by kernel_rfl)) ddies_law
theorem ddies_over : Rows.diskDiesRow.holds Try.pinned (OpenSpec.ofChange Rows.diskDiesSpec) :=
  OpenClaim.holds_of_wide 11 Try.f11 rfl rfl rfl rfl rfl rfl rfl ⟨rfl, rfl, rfl, rfl, rfl⟩ rfl rfl rfl rfl rfl (by kernel_rfl) Try.func11 (by kernel_rfl)
    (of_decide_eq_true (by kernel_rfl)) (by unfold Func.isWrapper; first | (rw [if_pos (by decide +kernel)]; kernel_rfl) | (rw [if_neg (by decide +kernel)]; exact ⟨rfl, rfl⟩))
    (fun os started H enc _ => ddies_lifted os started H enc)
/-- The statement. -/
theorem ddies_proved : Rows.DiskDiesSaid := ddies_over
#print axioms ddies_proved
end Go.Proofs.Ytknkbioalohofaa

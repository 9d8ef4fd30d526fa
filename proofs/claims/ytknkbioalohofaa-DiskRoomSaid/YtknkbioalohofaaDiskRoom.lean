/- DiskRoom: a disk takes bytes just up to its room. No condition. -/
import Derived.Test.YtknkbioalohofaaDkRoomW
namespace Go.Proofs.Ytknkbioalohofaa
open Go.ChangeShapes Go.WideShapes Go.ChangeAt Go.RowKit

theorem wf_i64 {n : Int} (h : (Lit.int .i64 n).wf = true) : -9223372036854775808 ≤ n ∧ n < 9223372036854775808 := by
  simp only [Lit.wf, IntKind.min, IntKind.max, IntKind.signed, IntKind.bits, Bool.and_eq_true] at h
  have h0 := h.1
  have h1 := h.2
  simp at h0 h1
  omega
set_option maxRecDepth 1000000 in
theorem droom_law : LawHolds 10 Try.f10 := by
  intro H enc W base args ds p hval hA
  rw [Try.params10] at hA hval
  obtain ⟨v0, vs0, d0, ds0, p0, q0, hargs, rfl, rfl, k0, r0⟩ := trodAll_cons hA
  obtain ⟨v1, vs1, d1, ds1, p1, q1, rfl, rfl, rfl, k1, r1⟩ := trodAll_cons r0
  obtain ⟨rfl, rfl, rfl⟩ := trodAll_nil r1
  obtain rfl : args = #[v0, v1] := by cases args; simp_all
  obtain ⟨n, rfl, _, _, hwf⟩ := open_int Try.underlying3 (hval 0 3 v0 rfl rfl) k0
  obtain ⟨ts, hts, hl, _⟩ := open_texts (hval 1 35 v1 rfl rfl) k1
  exact droom_walk n (wf_i64 hwf) ts v1 W hts hl

theorem droom_lifted (os : Os) (started : os.Started) (H : Type) (enc : TypeId × Value → H) :
    ReturnsInHanded {} Try.checked os 10 .any (Rows.diskRoomSpec.pre6 enc Try.prog Try.f10 Rows.diskRoomRow.domain false) (Rows.diskRoomSpec.post enc Try.prog Try.f10 false true false false) :=
  lifted_of started (by kernel_rfl) Try.func10
    (ChangeSpec.witness6 (enc := enc) (C := Try.checked) false ⟨#[], #[.int .i64 0, .slice none 0 0], []⟩ 8 (by kernel_rfl) (by kernel_rfl) (by kernel_rfl) (by kernel_rfl))
    rfl (by kernel_rfl) (fun ds h => by rw [Try.params10] at h; match ds, h with | [_, _], _ => rfl) (by rw [Try.params10]; exact of_decide_eq_true (by kernel_rfl)) droom_law
theorem droom_over : Rows.diskRoomRow.holds Try.pinned (OpenSpec.ofChange Rows.diskRoomSpec) :=
  OpenClaim.holds_of_wide 10 Try.f10 rfl rfl rfl rfl rfl rfl rfl ⟨rfl, rfl, rfl, rfl, rfl⟩ rfl rfl rfl rfl rfl (by kernel_rfl) Try.func10 (by kernel_rfl)
    (of_decide_eq_true (by kernel_rfl)) (by unfold Func.isWrapper; first | (rw [if_pos (by decide +kernel)]; kernel_rfl) | (rw [if_neg (by decide +kernel)]; exact ⟨rfl, rfl⟩))
    (fun os started H enc _ => droom_lifted os started H enc)
/-- The statement. -/
theorem droom_proved : Rows.DiskRoomSaid := droom_over
#print axioms droom_proved
end Go.Proofs.Ytknkbioalohofaa

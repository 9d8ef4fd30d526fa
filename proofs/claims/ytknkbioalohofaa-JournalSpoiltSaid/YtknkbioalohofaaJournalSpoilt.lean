/- JournalSpoilt: a byte that is another one costs at most the texts from its own on. No condition. -/
import Derived.Test.YtknkbioalohofaaJrSpoiltW
import Derived.Test.YtknkbioalohofaaJrnSpoiltF
import Derived.Test.YtknkbioalohofaaOpenT
import Derived.Test.YtknkbioalohofaaOpenI
namespace Go.Proofs.Ytknkbioalohofaa
open Go.ChangeShapes Go.WideShapes Go.ChangeAt Go.RowKit

set_option maxRecDepth 1000000 in
theorem jspoilt_law : LawHolds 16 Try.f16 := by
  intro H enc W base args ds p hval hA
  rw [Try.params16] at hA hval
  obtain ⟨v0, vs0, d0, ds0, p0, q0, hargs, rfl, rfl, k0, r0⟩ := trodAll_cons hA
  obtain ⟨v1, vs1, d1, ds1, p1, q1, rfl, rfl, rfl, k1, r1⟩ := trodAll_cons r0
  obtain ⟨v2, vs2, d2, ds2, p2, q2, rfl, rfl, rfl, k2, r2⟩ := trodAll_cons r1
  obtain ⟨v3, vs3, d3, ds3, p3, q3, rfl, rfl, rfl, k3, r3⟩ := trodAll_cons r2
  obtain ⟨rfl, rfl, rfl⟩ := trodAll_nil r3
  obtain rfl : args = #[v0, v1, v2, v3] := by cases args; simp_all
  obtain ⟨ta, hta, hla, _⟩ := open_texts (hval 0 35 v0 rfl rfl) k0
  obtain ⟨tb, htb, hlb, _⟩ := open_texts (hval 1 35 v1 rfl rfl) k1
  obtain ⟨n, rfl, _, _, hwf⟩ := open_int Try.underlying3 (hval 2 3 v2 rfl rfl) k2
  obtain ⟨x, rfl, _, _, hwx⟩ := open_int Try.underlying5 (hval 3 5 v3 rfl rfl) k3
  have hx : 0 ≤ x ∧ x < 256 := by
    simp only [Lit.wf, IntKind.min, IntKind.max, IntKind.signed, IntKind.bits, Bool.and_eq_true] at hwx
    have h0 := hwx.1
    have h1 := hwx.2
    simp at h0 h1
    omega
  exact jspoilt_walk ta tb n (UInt8.ofNat x.toNat) v0 v1 W hta hla htb hlb (wf_i64 hwf) (by rw [UInt8.toNat_ofNat']; omega)

theorem jspoilt_lifted (os : Os) (started : os.Started) (H : Type) (enc : TypeId × Value → H) :
    ReturnsInHanded {} Try.checked os 16 .any (Rows.journalSpoiltSpec.pre6 enc Try.prog Try.f16 Rows.journalSpoiltRow.domain false) (Rows.journalSpoiltSpec.post enc Try.prog Try.f16 false true false false) :=
  lifted_of started (by kernel_rfl) Try.func16
    (ChangeSpec.witness6 (enc := enc) (C := Try.checked) false ⟨#[], #[.slice none 0 0, .slice none 0 0, .int .i64 0, .int .u8 0], []⟩ 8 (by kernel_rfl) (by kernel_rfl) (by kernel_rfl) (by kernel_rfl))
    rfl (by kernel_rfl) (fun ds h => by rw [Try.params16] at h; match ds, h with | [_, _, _, _], _ => rfl) (by rw [Try.params16]; exact of_decide_eq_true (by kernel_rfl)) jspoilt_law
theorem jspoilt_over : Rows.journalSpoiltRow.holds Try.pinned (OpenSpec.ofChange Rows.journalSpoiltSpec) :=
  OpenClaim.holds_of_wide 16 Try.f16 rfl rfl rfl rfl rfl rfl rfl ⟨rfl, rfl, rfl, rfl, rfl⟩ rfl rfl rfl rfl rfl jspoilt_named Try.func16 jspoilt_closed
    (of_decide_eq_true (by kernel_rfl)) (by unfold Func.isWrapper; first | (rw [if_pos (by decide +kernel)]; kernel_rfl) | (rw [if_neg (by decide +kernel)]; exact ⟨rfl, rfl⟩))
    (fun os started H enc _ => jspoilt_lifted os started H enc)
/-- The statement. -/
theorem jspoilt_proved : Rows.JournalSpoiltSaid := jspoilt_over
#print axioms jspoilt_proved
end Go.Proofs.Ytknkbioalohofaa

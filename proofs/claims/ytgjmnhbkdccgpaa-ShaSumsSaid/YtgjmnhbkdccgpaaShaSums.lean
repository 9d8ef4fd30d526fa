/- ShaSums: texts are summed as published. No condition. -/
import Derived.Test.YtgjmnhbkdccgpaaShaAwake
namespace Go.Proofs.Ytgjmnhbkdccgpaa
open Go.ChangeShapes Go.WideShapes Go.ChangeAt Go.RowKit

set_option maxRecDepth 100000 in
set_option maxHeartbeats 1000000 in
theorem sums_walk (s : List UInt8) (w : World) :
    Calls Try.prog 3 #[.string ⟨s.toArray⟩] w fun e w' => e = .returned (.bool true) ∧ Below w.heap.size w w' := by
  have h0 := lcut_any s 300
  rw [show ((300 : Nat) : Int) = 300 from rfl] at h0
  have ht : (s.take 300).length ≤ 300 := by rw [List.length_take]; omega
  generalize s.take 300 = t at h0 ht
  have H0 := Lib.hid h0
  have H1 := Lib.hid (fun W => sum_any t W (by omega))
  have H2 := Lib.hid (fun W => rsum_any t W (by omega))
  have hl := S.sum_length t
  have HE := Lib.hid (eql_lab (S.sum t) (S.sum t) hl hl)
  rw [beq_self_eq_true] at HE
  clear h0 ht hl
  generalize S.sum t = f at *
  go_enter Try.func3, Try.ntmps3
  go_wp2_with (first | (go_at_call 18; with_reducible refine (H0.out _).mono ?_; rintro e w1 ⟨rfl, rfl⟩) | (go_at_call 19; with_reducible refine (awake_any _).mono ?_; rintro e w1 ⟨rfl, hb1⟩) | (go_at_call 20; with_reducible refine (H1.out _).mono ?_; rintro e w2 ⟨rfl, hb2⟩; have hB := hb1.trans (hb2.mono hb1.size)) | (go_at_call 21; with_reducible refine (H2.out _).mono ?_; rintro e w3 ⟨rfl, hb3⟩; replace hB := hB.trans (hb3.mono hB.size)) | (refine wpList_bin (by rfl) .eql 25 25 (.tmp 8) (.tmp 10) (by rfl) (labA f) (labA f) (by rfl) (by rfl) guard_lab (.bool true) (HE.out) ?_; simp only [Act.put, List.setIfInBounds_toArray, List.set_cons_succ, List.set_cons_zero]))
  go_ret
  exact ⟨rfl, hB⟩
set_option maxRecDepth 1000000 in
theorem sums_law : LawHolds 3 Try.f3 := by
  intro H enc W base args ds p hval hA
  rw [Try.params3] at hA hval
  obtain ⟨v0, vs0, d0, ds0, p0, q0, hargs, rfl, rfl, k0, r0⟩ := trodAll_cons hA
  obtain ⟨rfl, rfl, rfl⟩ := trodAll_nil r0
  obtain rfl : args = #[v0] := by cases args; simp_all
  obtain ⟨l, rfl, _⟩ := open_text (hval 0 9 v0 rfl rfl) k0
  exact sums_walk l W

theorem sums_lifted (os : Os) (started : os.Started) (H : Type) (enc : TypeId × Value → H) :
    ReturnsInHanded {} Try.checked os 3 .any (Rows.shaSumsSpec.pre6 enc Try.prog Try.f3 Rows.shaSumsRow.domain false) (Rows.shaSumsSpec.post enc Try.prog Try.f3 false true false false) :=
  lifted_of started (by kernel_rfl) Try.func3
    (ChangeSpec.witness6 (enc := enc) (C := Try.checked) false ⟨#[], #[.string ⟨#[]⟩], []⟩ 8 (by kernel_rfl) (by kernel_rfl) (by kernel_rfl) (by kernel_rfl))
    rfl (by kernel_rfl) (fun ds h => by rw [Try.params3] at h; match ds, h with | [_], _ => rfl) (by rw [Try.params3]; exact of_decide_eq_true (by kernel_rfl)) sums_law
theorem sums_over : Rows.shaSumsRow.holds Try.pinned (OpenSpec.ofChange Rows.shaSumsSpec) :=
  OpenClaim.holds_of_wide 3 Try.f3 rfl rfl rfl rfl rfl rfl rfl ⟨rfl, rfl, rfl, rfl, rfl⟩ rfl rfl rfl rfl rfl (by kernel_rfl) Try.func3 (by kernel_rfl)
    (of_decide_eq_true (by kernel_rfl)) (by unfold Func.isWrapper; first | (rw [if_pos (by decide +kernel)]; kernel_rfl) | (rw [if_neg (by decide +kernel)]; exact ⟨rfl, rfl⟩))
    (fun os started H enc _ => sums_lifted os started H enc)
/-- The statement. -/
theorem sums_proved : Rows.ShaSumsSaid := sums_over
#print axioms sums_proved
end Go.Proofs.Ytgjmnhbkdccgpaa

/- ShaMacs: texts are summed by keys as published. No condition. -/
import Derived.Test.YtgjmnhbkdccgpaaShaAwake
import Derived.Test.YtgjmnhbkdccgpaaWRMac
namespace Go.Proofs.Ytgjmnhbkdccgpaa
open Go.ChangeShapes Go.WideShapes Go.ChangeAt Go.RowKit

set_option maxRecDepth 100000 in
set_option maxHeartbeats 1000000 in
theorem macs_walk (key s : List UInt8) (w : World) :
    Calls Try.prog 7 #[.string ⟨key.toArray⟩, .string ⟨s.toArray⟩] w fun e w' => e = .returned (.bool true) ∧ Below w.heap.size w w' := by
  have h0 := lcut_any key 200
  have h1 := lcut_any s 200
  rw [show ((200 : Nat) : Int) = 200 from rfl] at h0 h1
  have ht : (key.take 200).length ≤ 200 := by rw [List.length_take]; omega
  have ht2 : (s.take 200).length ≤ 200 := by rw [List.length_take]; omega
  generalize key.take 200 = k at h0 ht
  generalize s.take 200 = t at h1 ht2
  have H0 := Lib.hid h0
  have H00 := Lib.hid h1
  have H1 := Lib.hid (fun W => mac_any k t W (by omega) (by omega))
  have H2 := Lib.hid (fun W => rmac_any k t W (by omega) (by omega))
  have hl := S.mac_length k t
  have HE := Lib.hid (eql_lab (S.mac k t) (S.mac k t) hl hl)
  rw [beq_self_eq_true] at HE
  clear h0 h1 ht hl ht2
  generalize S.mac k t = f at *
  go_enter Try.func7, Try.ntmps7
  go_wp2_with (first | (go_at_call 18; with_reducible refine (H0.out _).mono ?_; rintro e w1 ⟨rfl, rfl⟩) | (go_at_call 18; with_reducible refine (H00.out _).mono ?_; rintro e w1 ⟨rfl, rfl⟩) | (go_at_call 19; with_reducible refine (awake_any _).mono ?_; rintro e w1 ⟨rfl, hb1⟩) | (go_at_call 28; with_reducible refine (H1.out _).mono ?_; rintro e w2 ⟨rfl, hb2⟩; have hB := hb1.trans (hb2.mono hb1.size)) | (go_at_call 29; with_reducible refine (H2.out _).mono ?_; rintro e w3 ⟨rfl, hb3⟩; replace hB := hB.trans (hb3.mono hB.size)) | (refine wpList_bin (by rfl) .eql 25 25 (.tmp 13) (.tmp 16) (by rfl) (labA f) (labA f) (by rfl) (by rfl) guard_lab (.bool true) (HE.out) ?_; simp only [Act.put, List.setIfInBounds_toArray, List.set_cons_succ, List.set_cons_zero]))
  go_ret
  exact ⟨rfl, hB⟩
set_option maxRecDepth 1000000 in
theorem macs_law : LawHolds 7 Try.f7 := by
  intro H enc W base args ds p hval hA
  rw [Try.params7] at hA hval
  obtain ⟨v0, vs0, d0, ds0, p0, q0, hargs, rfl, rfl, k0, r0⟩ := trodAll_cons hA
  obtain ⟨v1, vs1, d1, ds1, p1, q1, rfl, rfl, rfl, k1, r1⟩ := trodAll_cons r0
  obtain ⟨rfl, rfl, rfl⟩ := trodAll_nil r1
  obtain rfl : args = #[v0, v1] := by cases args; simp_all
  obtain ⟨k, rfl, _⟩ := open_text (hval 0 9 v0 rfl rfl) k0
  obtain ⟨l, rfl, _⟩ := open_text (hval 1 9 v1 rfl rfl) k1
  exact macs_walk k l W

theorem macs_lifted (os : Os) (started : os.Started) (H : Type) (enc : TypeId × Value → H) :
    ReturnsInHanded {} Try.checked os 7 .any (Rows.shaMacsSpec.pre6 enc Try.prog Try.f7 Rows.shaMacsRow.domain false) (Rows.shaMacsSpec.post enc Try.prog Try.f7 false true false false) :=
  lifted_of started (by kernel_rfl) Try.func7
    (ChangeSpec.witness6 (enc := enc) (C := Try.checked) false ⟨#[], #[.string ⟨#[]⟩, .string ⟨#[]⟩], []⟩ 8 (by kernel_rfl) (by kernel_rfl) (by kernel_rfl) (by kernel_rfl))
    rfl (by kernel_rfl) (fun ds h => by rw [Try.params7] at h; match ds, h with | [_, _], _ => rfl) (by rw [Try.params7]; exact of_decide_eq_true (by kernel_rfl)) macs_law
theorem macs_over : Rows.shaMacsRow.holds Try.pinned (OpenSpec.ofChange Rows.shaMacsSpec) :=
  OpenClaim.holds_of_wide 7 Try.f7 rfl rfl rfl rfl rfl rfl rfl ⟨rfl, rfl, rfl, rfl, rfl⟩ rfl rfl rfl rfl rfl (by kernel_rfl) Try.func7 (by kernel_rfl)
    (of_decide_eq_true (by kernel_rfl)) (by unfold Func.isWrapper; first | (rw [if_pos (by decide +kernel)]; kernel_rfl) | (rw [if_neg (by decide +kernel)]; exact ⟨rfl, rfl⟩))
    (fun os started H enc _ => macs_lifted os started H enc)
/-- The statement. -/
theorem macs_proved : Rows.ShaMacsSaid := macs_over
#print axioms macs_proved
end Go.Proofs.Ytgjmnhbkdccgpaa

/- NameChecks: identities are told from other texts, and where those aren't ones; any rune's kind. No condition. -/
import Derived.Test.YtpinackeelncfaaNameAwake
import Derived.Test.YtpinackeelncfaaWRCheck
import Derived.Test.YtpinackeelncfaaCut
namespace Go.Proofs.Ytpinackeelncfaa
open Go.ChangeShapes Go.WideShapes Go.ChangeAt Go.RowKit

set_option maxRecDepth 100000 in
set_option maxHeartbeats 1000000 in
theorem checks_walk (s0 : List UInt8) (c : Int) (hc0 : -2147483648 ≤ c) (hc1 : c ≤ 2147483647) (w : World) :
    Calls Try.prog 3 #[.string ⟨s0.toArray⟩, .int .i32 c] w fun e w' => e = .returned (.bool true) ∧ Below w.heap.size w w' := by
  have h0 := lcut_any s0 300
  rw [show ((300 : Nat) : Int) = 300 from rfl] at h0
  have hs : (s0.take 300).length ≤ 300 := by rw [List.length_take]; omega
  generalize s0.take 300 = s at h0 hs
  have H0 := Lib.hid h0
  have CN := Lib.hid (fun W => check_any s W (by omega))
  have CR := Lib.hid (fun W => rcheck_any s W (by omega))
  have KN := Lib.hid (fun W => kind_any c W)
  have KR := Lib.hid (fun W => rkind_any c W)
  clear h0
  generalize (N.check s).1 = a at *
  generalize (N.check s).2 = b at *
  generalize N.kind c = k at *
  generalize (⟨s.toArray⟩ : ByteArray) = S at *
  have hB : Below w.heap.size w w := Below.refl _ _
  go_enter Try.func3, Try.ntmps3
  go_wp2_with (first | (go_at_call 8; with_reducible refine (H0.out _).mono ?_; rintro e w0 ⟨rfl, rfl⟩) | (go_at_call 9; with_reducible refine (CN.out _).mono ?_; rintro e w1 ⟨rfl, hb1⟩; replace hB := hB.trans (hb1.mono hB.size); clear hb1) | (go_at_call 10; with_reducible refine (CR.out _).mono ?_; rintro e w1 ⟨rfl, hb1⟩; replace hB := hB.trans (hb1.mono hB.size); clear hb1) | (go_at_call 12; with_reducible refine (KN.out _).mono ?_; rintro e w1 ⟨rfl, hb1⟩; replace hB := hB.trans (hb1.mono hB.size); clear hb1) | (go_at_call 13; with_reducible refine (KR.out _).mono ?_; rintro e w1 ⟨rfl, hb1⟩; replace hB := hB.trans (hb1.mono hB.size); clear hb1) | (go_at_call 11; with_reducible refine (nawake_any _).mono ?_; rintro e w1 ⟨rfl, hb1⟩; replace hB := hB.trans (hb1.mono hB.size); clear hb1))
  go_ret
  exact ⟨rfl, hB⟩
set_option maxRecDepth 1000000 in
theorem checks_law : LawHolds 3 Try.f3 := by
  intro H enc W base args ds p hval hA
  rw [Try.params3] at hA hval
  obtain ⟨v0, vs0, d0, ds0, p0, q0, hargs, rfl, rfl, k0, r0⟩ := trodAll_cons hA
  obtain ⟨v1, vs1, d1, ds1, p1, q1, rfl, rfl, rfl, k1, r1⟩ := trodAll_cons r0
  obtain ⟨rfl, rfl, rfl⟩ := trodAll_nil r1
  obtain rfl : args = #[v0, v1] := by cases args; simp_all
  obtain ⟨l, rfl, _⟩ := open_text (hval 0 9 v0 rfl rfl) k0
  obtain ⟨n, rfl, _, _, hwf⟩ := open_int Try.underlying21 (hval 1 21 v1 rfl rfl) k1
  simp only [Lit.wf, IntKind.min, IntKind.max, IntKind.signed, IntKind.bits, Bool.and_eq_true] at hwf
  have h0 : -2147483648 ≤ n := by have := hwf.1; simpa using this
  have h1 : n ≤ 2147483647 := by have := hwf.2; simpa using this
  exact checks_walk l n h0 h1 W

theorem checks_lifted (os : Os) (started : os.Started) (H : Type) (enc : TypeId × Value → H) :
    ReturnsInHanded {} Try.checked os 3 .any (Rows.nameChecksSpec.pre6 enc Try.prog Try.f3 Rows.nameChecksRow.domain false) (Rows.nameChecksSpec.post enc Try.prog Try.f3 false true false false) :=
  lifted_of started (by kernel_rfl) Try.func3
    (ChangeSpec.witness6 (enc := enc) (C := Try.checked) false ⟨#[], #[.string ⟨#[]⟩, .int .i32 0], []⟩ 8 (by kernel_rfl) (by kernel_rfl) (by kernel_rfl) (by kernel_rfl))
    rfl (by kernel_rfl) (fun ds h => by rw [Try.params3] at h; match ds, h with | [_, _], _ => rfl) (by rw [Try.params3]; exact of_decide_eq_true (by kernel_rfl)) checks_law
theorem checks_over : Rows.nameChecksRow.holds Try.pinned (OpenSpec.ofChange Rows.nameChecksSpec) :=
  OpenClaim.holds_of_wide 3 Try.f3 rfl rfl rfl rfl rfl rfl rfl ⟨rfl, rfl, rfl, rfl, rfl⟩ rfl rfl rfl rfl rfl (by kernel_rfl) Try.func3 (by kernel_rfl)
    (of_decide_eq_true (by kernel_rfl)) (by unfold Func.isWrapper; first | (rw [if_pos (by decide +kernel)]; kernel_rfl) | (rw [if_neg (by decide +kernel)]; exact ⟨rfl, rfl⟩))
    (fun os started H enc _ => checks_lifted os started H enc)
/-- The statement. -/
theorem checks_proved : Rows.NameChecksSaid := checks_over
#print axioms checks_proved
end Go.Proofs.Ytpinackeelncfaa

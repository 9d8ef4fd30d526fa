/- SealOpens: any bytes are opened as the frames that they are. No condition. -/
import Derived.Test.YtknkbioalohofaaSealAwake
namespace Go.Proofs.Ytknkbioalohofaa
open Go.ChangeShapes Go.WideShapes Go.ChangeAt Go.RowKit

set_option maxRecDepth 100000 in
set_option maxHeartbeats 1000000 in
theorem opens_walk (s : List UInt8) (w : World) :
    Calls Try.prog 4 #[.string ⟨s.toArray⟩] w fun e w' => e = .returned (.bool true) ∧ Below w.heap.size w w' := by
  have h0 := lcut_any s 1000
  rw [show ((1000 : Nat) : Int) = 1000 from rfl] at h0
  have ht : (s.take 1000).length ≤ 1000 := by rw [List.length_take]; omega
  generalize s.take 1000 = t at h0 ht
  have H0 := Lib.hid h0
  have H1 := Lib.hid (open_any t)
  have H2 := Lib.hid (ropenF_any t (by omega))
  have H3 := Lib.hid (all_any t (by omega))
  have H4 := Lib.hid (rall_any t (by omega))
  have hal : (C.all t).1.length ≤ 4611686018427387904 := by
    have : ∀ k (s : List UInt8), (C.allF k s).1.length ≤ k := by
      intro k
      induction k with
      | zero => intro s; simp [C.allF]
      | succ k ih =>
        intro s
        unfold C.allF
        split
        · have := ih (s.drop (C.opn s).2.1); simp; omega
        · simp
    have := this (t.length + 1) t
    unfold C.all
    omega
  have Hal := Lib.hid hal
  clear h0 ht hal
  generalize C.opn t = T at H1 H2
  obtain ⟨x, n, e⟩ := T
  generalize C.all t = A at H3 H4 Hal
  obtain ⟨ts, k⟩ := A
  simp only at H1 H2 H3 H4 Hal
  go_enter Try.func4, Try.ntmps4
  go_wp2_with (first | (go_at_call 19; with_reducible refine (H0.out _).mono ?_; rintro e w1 ⟨rfl, rfl⟩) | (go_at_call 25; with_reducible refine (H1.out _).mono ?_; rintro e w1 ⟨rfl, hB⟩) | (go_at_call 26; with_reducible refine (H2.out _).mono ?_; rintro e w2 ⟨rfl, hb2⟩; replace hB := hB.trans (hb2.mono hB.size)) | (go_at_call 27; with_reducible refine (H3.out _).mono ?_; rintro e w3 ⟨v1, rfl, hr1, _, hb3⟩; replace hB := hB.trans (hb3.mono hB.size)) | (go_at_call 28; with_reducible refine (H4.out _).mono ?_; rintro e w4 ⟨v2, rfl, hr2, _, hb4⟩; replace hr1 := hr1.at_ hb4; replace hB := hB.trans (hb4.mono hB.size)) | (go_at_call 21; with_reducible refine (awake_any _).mono ?_; rintro e w5 ⟨rfl, hb5⟩; replace hr1 := hr1.at_ hb5; replace hr2 := hr2.at_ hb5; replace hB := hB.trans (hb5.mono hB.size)) | (go_at_call 29; with_reducible refine (rsame_any ts ts _ _ _ hr1.reads hr2.reads Hal.out).mono ?_; rintro e w6 ⟨rfl, nd, rfl⟩; replace hB := below_drewN hB nd))
  go_ret
  exact ⟨by simp, hB⟩
set_option maxRecDepth 1000000 in
theorem opens_law : LawHolds 4 Try.f4 := by
  intro H enc W base args ds p hval hA
  rw [Try.params4] at hA hval
  obtain ⟨v0, vs0, d0, ds0, p0, q0, hargs, rfl, rfl, k0, r0⟩ := trodAll_cons hA
  obtain ⟨rfl, rfl, rfl⟩ := trodAll_nil r0
  obtain rfl : args = #[v0] := by cases args; simp_all
  obtain ⟨l, rfl, _⟩ := open_text (hval 0 9 v0 rfl rfl) k0
  exact opens_walk l W

theorem opens_lifted (os : Os) (started : os.Started) (H : Type) (enc : TypeId × Value → H) :
    ReturnsInHanded {} Try.checked os 4 .any (Rows.sealOpensSpec.pre6 enc Try.prog Try.f4 Rows.sealOpensRow.domain false) (Rows.sealOpensSpec.post enc Try.prog Try.f4 false true false false) :=
  lifted_of started (by kernel_rfl) Try.func4
    (ChangeSpec.witness6 (enc := enc) (C := Try.checked) false ⟨#[], #[.string ⟨#[]⟩], []⟩ 8 (by kernel_rfl) (by kernel_rfl) (by kernel_rfl) (by kernel_rfl))
    rfl (by kernel_rfl) (fun ds h => by rw [Try.params4] at h; match ds, h with | [_], _ => rfl) (by rw [Try.params4]; exact of_decide_eq_true (by kernel_rfl)) opens_law
theorem opens_over : Rows.sealOpensRow.holds Try.pinned (OpenSpec.ofChange Rows.sealOpensSpec) :=
  OpenClaim.holds_of_wide 4 Try.f4 rfl rfl rfl rfl rfl rfl rfl ⟨rfl, rfl, rfl, rfl, rfl⟩ rfl rfl rfl rfl rfl (by kernel_rfl) Try.func4 (by kernel_rfl)
    (of_decide_eq_true (by kernel_rfl)) (by unfold Func.isWrapper; first | (rw [if_pos (by decide +kernel)]; kernel_rfl) | (rw [if_neg (by decide +kernel)]; exact ⟨rfl, rfl⟩))
    (fun os started H enc _ => opens_lifted os started H enc)
/-- The statement. -/
theorem opens_proved : Rows.SealOpensSaid := opens_over
#print axioms opens_proved
end Go.Proofs.Ytknkbioalohofaa

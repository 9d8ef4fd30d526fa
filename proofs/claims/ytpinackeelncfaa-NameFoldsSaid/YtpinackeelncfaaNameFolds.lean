/- NameFolds: texts are folded, counted and parted. No condition. -/
import Derived.Test.YtpinackeelncfaaNameAwake
import Derived.Test.YtpinackeelncfaaWRFold
import Derived.Test.YtpinackeelncfaaWRParts
import Derived.Test.YtpinackeelncfaaCut
namespace Go.Proofs.Ytpinackeelncfaa
open Go.ChangeShapes Go.WideShapes Go.ChangeAt Go.RowKit

set_option maxRecDepth 100000 in
set_option maxHeartbeats 2000000 in
theorem folds_walk (s0 : List UInt8) (w : World) :
    Calls Try.prog 5 #[.string ⟨s0.toArray⟩] w fun e w' => e = .returned (.bool true) ∧ Below w.heap.size w w' := by
  have h0 := lcut_any s0 300
  rw [show ((300 : Nat) : Int) = 300 from rfl] at h0
  have hs : (s0.take 300).length ≤ 300 := by rw [List.length_take]; omega
  generalize s0.take 300 = s at h0 hs
  have H0 := Lib.hid h0
  have PN := Lib.hid (fun W => parts_any s W (by omega))
  have PR := Lib.hid (fun W => rparts_any s W (by omega))
  have FN := Lib.hid (fun W => fold_any s W (by omega))
  have FR := Lib.hid (fun W => rfold_any s W (by omega))
  have RN := Lib.hid (fun W => runes_any s W (by omega))
  have RR := Lib.hid (fun W => rrunes_any s W (by omega))
  have hpl := N.partsGo_len s (N.runes s) 0
  rw [show N.partsGo s (N.runes s) 0 = N.parts s from rfl] at hpl
  have hp0 : 0 < (N.parts s).length := by
    obtain ⟨t, r, e⟩ := N.partsGo_ne2 s (N.runes s) 0
    rw [show N.parts s = t :: r from e]
    simp
  have hrl := N.runes_len s
  clear h0
  generalize N.parts s = L at *
  generalize (N.runes s).length = rl at *
  generalize (⟨(N.fold s).toArray⟩ : ByteArray) = F at *
  generalize (⟨s.toArray⟩ : ByteArray) = S at *
  have hB : Below w.heap.size w w := Below.refl _ _
  go_enter Try.func5, Try.ntmps5
  go_wp2_with (first | (go_at_call 8; with_reducible refine (H0.out _).mono ?_; rintro e w0 ⟨rfl, rfl⟩) | (go_at_call 15; with_reducible refine (PN.out _).mono ?_; rintro e w1 ⟨v, rfl, hr1, hb1⟩; obtain ⟨g1, cap1, rfl, hc1⟩ := hr1.form_len (List.length_map ..) hp0; replace hB := hB.trans (hb1.mono hB.size); clear hb1) | (go_at_call 16; with_reducible refine (PR.out _).mono ?_; rintro e w2 ⟨v, rfl, hr2, hb1⟩; obtain ⟨g2, cap2, rfl, hc2⟩ := hr2.form_len (List.length_map ..) hp0; replace hr1 := hr1.at_ hb1; replace hB := hB.trans (hb1.mono hB.size); clear hb1) | (go_at_call 11; with_reducible refine (nawake_any _).mono ?_; rintro e w3 ⟨rfl, hb1⟩; replace hr1 := hr1.at_ hb1; replace hr2 := hr2.at_ hb1; replace hB := hB.trans (hb1.mono hB.size); clear hb1) | (go_at_call 17; with_reducible refine (FN.out _).mono ?_; rintro e w3 ⟨rfl, hb1⟩; replace hr1 := hr1.at_ hb1; replace hr2 := hr2.at_ hb1; replace hB := hB.trans (hb1.mono hB.size); clear hb1) | (go_at_call 18; with_reducible refine (FR.out _).mono ?_; rintro e w3 ⟨rfl, hb1⟩; replace hr1 := hr1.at_ hb1; replace hr2 := hr2.at_ hb1; replace hB := hB.trans (hb1.mono hB.size); clear hb1) | (go_at_call 14; with_reducible refine (RN.out _).mono ?_; rintro e w3 ⟨rfl, hb1⟩; replace hr1 := hr1.at_ hb1; replace hr2 := hr2.at_ hb1; replace hB := hB.trans (hb1.mono hB.size); clear hb1) | (go_at_call 19; with_reducible refine (RR.out _).mono ?_; rintro e w3 ⟨g, cap, rfl, hc, hra, hb1⟩; clear hra; replace hr1 := hr1.at_ hb1; replace hr2 := hr2.at_ hb1; replace hB := hB.trans (hb1.mono hB.size); clear hb1))
  obtain ⟨n, hn⟩ : ∃ n, n = L.length := ⟨_, rfl⟩
  rw [← hn] at hc1 hc2 hr1 hr2 hpl ⊢
  have Hn := Lib.hid hn
  clear hn H0 PN PR FN FR RN RR hp0
  go_loopw [38] (fun i wr => ∃ k : Nat, i = .int .i64 (k : Int) ∧ k ≤ n ∧ Row1 wr 9 (.slice (some ⟨g1, 0, none⟩) n cap1) (L.map strV) ∧ Row1 wr 9 (.slice (some ⟨g2, 0, none⟩) n cap2) (L.map strV) ∧ Below w.heap.size w wr) (fun i _ => n - (intOf i).toNat)
  case atStart => exact ⟨0, rfl, by omega, hr1, hr2, hB⟩
  case round =>
    clear hr1 hr2 hB
    obtain ⟨k, rfl, hk, hr1, hr2, hB⟩ := hrel
    have k0 : (0 : Int) ≤ (k : Int) := by omega
    have kb : (k : Int) ≤ 301 := by omega
    by_cases hlt : k < n
    · have hkl : k < L.length := by have := Hn.out; omega
      have d1 : decide ((k : Int) < (n : Int)) = true := by simp; omega
      have d1' : decide (k < n) = true := by simpa using hlt
      have kn : (k : Int) < (n : Int) := by omega
      have kc1 : wr.cell? ⟨g1, k, none⟩ = some (.string ⟨(L.getD k []).toArray⟩) := hr1.cell rfl k _ (by rw [List.getElem?_map, List.getElem?_eq_getElem hkl, List.getD_eq_getElem?_getD, List.getElem?_eq_getElem hkl]; rfl)
      have kc2 : wr.cell? ⟨g2, k, none⟩ = some (.string ⟨(L.getD k []).toArray⟩) := hr2.cell rfl k _ (by rw [List.getElem?_map, List.getElem?_eq_getElem hkl, List.getD_eq_getElem?_getD, List.getElem?_eq_getElem hkl]; rfl)
      generalize (⟨(L.getD k []).toArray⟩ : ByteArray) = T at *
      go_wp2
      go_quiet (fail)
      go_wp2
      go_roundw
      case rel => exact ⟨k + 1, by go_num, by omega, hr1.drewN _, hr2.drewN _, below_drewN hB _⟩
      case measure => simp [intOf]; omega
    · obtain rfl : k = n := by omega
      have d1 : decide ((k : Int) < (k : Int)) = false := by simp
      have d1' : decide (k < k) = false := by simp
      go_wp2
      go_ret
      exact ⟨rfl, hB⟩
set_option maxRecDepth 1000000 in
theorem folds_law : LawHolds 5 Try.f5 := by
  intro H enc W base args ds p hval hA
  rw [Try.params5] at hA hval
  obtain ⟨v0, vs0, d0, ds0, p0, q0, hargs, rfl, rfl, k0, r0⟩ := trodAll_cons hA
  obtain ⟨rfl, rfl, rfl⟩ := trodAll_nil r0
  obtain rfl : args = #[v0] := by cases args; simp_all
  obtain ⟨l, rfl, _⟩ := open_text (hval 0 9 v0 rfl rfl) k0
  exact folds_walk l W

theorem folds_lifted (os : Os) (started : os.Started) (H : Type) (enc : TypeId × Value → H) :
    ReturnsInHanded {} Try.checked os 5 .any (Rows.nameFoldsSpec.pre6 enc Try.prog Try.f5 Rows.nameFoldsRow.domain false) (Rows.nameFoldsSpec.post enc Try.prog Try.f5 false true false false) :=
  lifted_of started (by kernel_rfl) Try.func5
    (ChangeSpec.witness6 (enc := enc) (C := Try.checked) false ⟨#[], #[.string ⟨#[]⟩], []⟩ 8 (by kernel_rfl) (by kernel_rfl) (by kernel_rfl) (by kernel_rfl))
    rfl (by kernel_rfl) (fun ds h => by rw [Try.params5] at h; match ds, h with | [_], _ => rfl) (by rw [Try.params5]; exact of_decide_eq_true (by kernel_rfl)) folds_law
theorem folds_over : Rows.nameFoldsRow.holds Try.pinned (OpenSpec.ofChange Rows.nameFoldsSpec) :=
  OpenClaim.holds_of_wide 5 Try.f5 rfl rfl rfl rfl rfl rfl rfl ⟨rfl, rfl, rfl, rfl, rfl⟩ rfl rfl rfl rfl rfl (by kernel_rfl) Try.func5 (by kernel_rfl)
    (of_decide_eq_true (by kernel_rfl)) (by unfold Func.isWrapper; first | (rw [if_pos (by decide +kernel)]; kernel_rfl) | (rw [if_neg (by decide +kernel)]; exact ⟨rfl, rfl⟩))
    (fun os started H enc _ => folds_lifted os started H enc)
/-- The statement. -/
theorem folds_proved : Rows.NameFoldsSaid := folds_over
#print axioms folds_proved
end Go.Proofs.Ytpinackeelncfaa

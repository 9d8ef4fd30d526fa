/- The walk of 'awake' of layer 6: the answers that the document fixes. -/
import Derived.Test.YtpinackeelncfaaWNCheck
import Derived.Test.YtpinackeelncfaaWFold
namespace Go.Proofs.Ytpinackeelncfaa
open Go.RowKit

theorem nck1 : N.check [97, 46, 46, 98] = (2, 3) := by decide +kernel
theorem nck2 : N.check [97, 110, 110, 46, 98, 64, 120, 49] = (0, 0) := by decide +kernel
theorem nfo1 : N.fold [195, 132, 66] = [195, 164, 98] := by decide +kernel
theorem nru1 : (N.runes [195, 164, 98]).length = 2 := by decide +kernel
set_option maxRecDepth 100000 in
set_option maxHeartbeats 1000000 in
theorem nawake_any (w : World) : Calls Try.prog 11 #[] w fun e w' => e = .returned (.bool true) ∧ Below w.heap.size w w' := by
  have h1 : ∀ W, Calls Try.prog 9 #[.string ⟨#[97, 46, 46, 98]⟩] W fun e w' => e = .returned (.tuple #[.int .i64 2, .int .i64 3]) ∧ Below W.heap.size W w' := fun W => by
    have h := check_any [97, 46, 46, 98] W (by decide)
    rw [nck1] at h
    exact h
  have h2 : ∀ W, Calls Try.prog 9 #[.string ⟨#[97, 110, 110, 46, 98, 64, 120, 49]⟩] W fun e w' => e = .returned (.tuple #[.int .i64 0, .int .i64 0]) ∧ Below W.heap.size W w' := fun W => by
    have h := check_any [97, 110, 110, 46, 98, 64, 120, 49] W (by decide)
    rw [nck2] at h
    exact h
  have h3 : ∀ W, Calls Try.prog 17 #[.string ⟨#[195, 132, 66]⟩] W fun e w' => e = .returned (.string ⟨#[195, 164, 98]⟩) ∧ Below W.heap.size W w' := fun W => by
    have h := fold_any [195, 132, 66] W (by decide)
    rw [nfo1] at h
    exact h
  have h4 : ∀ W, Calls Try.prog 14 #[.string ⟨#[195, 164, 98]⟩] W fun e w' => e = .returned (.int .i64 2) ∧ Below W.heap.size W w' := fun W => by
    have h := runes_any [195, 164, 98] W (by decide)
    rw [nru1] at h
    exact h
  have H1 := Lib.hid h1
  have H2 := Lib.hid h2
  have H3 := Lib.hid h3
  have H4 := Lib.hid h4
  clear h1 h2 h3 h4
  go_enter Try.func11, Try.ntmps11
  go_wp2_with (first | (go_at_call 9; with_reducible refine (H1.out _).mono ?_; rintro e w1 ⟨rfl, hb1⟩) | (go_at_call 9; with_reducible refine (H2.out _).mono ?_; rintro e w2 ⟨rfl, hb2⟩) | (go_at_call 17; with_reducible refine (H3.out _).mono ?_; rintro e w3 ⟨rfl, hb3⟩) | (go_at_call 14; with_reducible refine (H4.out _).mono ?_; rintro e w4 ⟨rfl, hb4⟩))
  go_ret
  have hB2 := hb1.trans (hb2.mono hb1.size)
  have hB3 := hB2.trans (hb3.mono hB2.size)
  exact ⟨rfl, hB3.trans (hb4.mono hB3.size)⟩
end Go.Proofs.Ytpinackeelncfaa

/- The walk of code.Reader.Text, of a text that is there. -/
import Derived.Test.YtknkbioalohofaaWRNum
import Derived.Test.YtknkbioalohofaaPureText
namespace Go.Proofs.Ytknkbioalohofaa
open Go.RowKit

set_option maxRecDepth 100000 in
set_option maxHeartbeats 1000000 in
theorem rtext_any (s : List UInt8) (hs : s.length ≤ 4611686018427387904) (r : D.Rd) (h0 : (D.number s r).2.err = 0) (h1 : (D.number s r).1 ≤ 65536) (g : Nat) (w : World) (h : Rst w g s r) :
    Calls Try.prog 35 #[.pointer (some ⟨g, 0, none⟩)] w fun e w' => e = .returned (.string ⟨(D.rtext s r).1.toArray⟩) ∧ Rst w' g s (D.rtext s r).2 ∧ w.grownBy w' (some g) := by
  have hg := h.blk.lt
  have HN := Lib.hid (rnumber_any s hs r g w h)
  have hr : D.rtext s r = D.take s (D.number s r).2 (D.number s r).1 := by unfold D.rtext; rw [if_neg (by omega)]
  have TT := Lib.hid (fun W (h : Rst W g s (D.number s r).2) => take_any s hs (D.number s r).2 (D.number s r).1 (by omega) g W h)
  rw [← hr] at TT
  generalize D.rtext s r = T at *
  generalize hN : (D.number s r).1 = n at *
  generalize hR : (D.number s r).2 = q at *
  clear hr hN hR h
  have d1 : decide ((65536 : Int) < (n : Int)) = false := by simp; omega
  have d1' : decide (65536 < n) = false := by simp; omega
  generalize (⟨T.1.toArray⟩ : ByteArray) = TS at *
  go_enter Try.func35, Try.ntmps35
  go_wp2_with (first | (go_at_call 73; with_reducible refine (HN.out).mono ?_; rintro e w1 ⟨rfl, hr1, hg1⟩; have c2 := hr1.blk.cellv (i := 2) rfl; rw [h0, show ((0 : Nat) : Int) = 0 from rfl] at c2) | (go_at_call 75; with_reducible refine (TT.out _ hr1).mono ?_; rintro e w2 ⟨rfl, hr2, ho2⟩))
  go_ret
  exact ⟨rfl, hr2, grown_then hg1 ho2.grown⟩
end Go.Proofs.Ytknkbioalohofaa

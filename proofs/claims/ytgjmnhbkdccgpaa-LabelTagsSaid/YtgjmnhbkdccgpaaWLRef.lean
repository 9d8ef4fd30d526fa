/- The walks of the document's Text, Error and Bytes of seeds; of package label's sums. -/
import Derived.Test.YtgjmnhbkdccgpaaWSeed
import Derived.Test.YtgjmnhbkdccgpaaWRBytes
namespace Go.Proofs.Ytgjmnhbkdccgpaa
open Go.RowKit

set_option maxRecDepth 100000 in
set_option maxHeartbeats 1000000 in
theorem r2text_any (s : List UInt8) (hs : s.length ≤ 100000000) (w : World) :
    Calls Try.prog 67 #[.string ⟨s.toArray⟩] w fun e w' => e = .returned (.string ⟨(D.textB s).toArray⟩) ∧ Below w.heap.size w w' := by
  have RN := Lib.hid (fun W => rnum_any s.length (by omega) W)
  have hl := D.numB_le9 s.length (by omega)
  have sa := str_add (D.numB s.length) s (by omega)
  rw [show D.numB s.length ++ s = D.textB s from rfl] at sa
  generalize (⟨(D.textB s).toArray⟩ : ByteArray) = R at *
  generalize (⟨(D.numB s.length).toArray⟩ : ByteArray) = M at *
  clear hl
  go_enter Try.func67, Try.ntmps67
  go_wp2_with (go_at_call 68; with_reducible refine (RN.out _).mono ?_; rintro e w1 ⟨rfl, hb1⟩)
  go_ret
  exact ⟨rfl, hb1⟩
set_option maxRecDepth 100000 in
set_option maxHeartbeats 1000000 in
theorem r14text_any (id : List UInt8) (hid : id.length ≤ 60000) (n : Nat) (hn : n ≤ 1073741824) (w : World) :
    Calls Try.prog 36 #[.string ⟨id.toArray⟩, .int .i64 (n : Int)] w fun e w' => e = .returned (.string ⟨(L.text id (n : Int)).toArray⟩) ∧ Below w.heap.size w w' := by
  have RT := Lib.hid (fun W => r2text_any id (by omega) W)
  have RN := Lib.hid (fun W => rnum_any n (by omega) W)
  have hl := L.text_length id (n : Int) hid (by omega)
  have e : L.text id (n : Int) = D.textB id ++ D.numB n := rfl
  rw [e, List.length_append] at hl
  have sa := str_add (D.textB id) (D.numB n) (by omega)
  rw [← e] at sa
  generalize (⟨(L.text id (n : Int)).toArray⟩ : ByteArray) = R at *
  generalize (⟨(D.numB n).toArray⟩ : ByteArray) = M at *
  generalize (⟨(D.textB id).toArray⟩ : ByteArray) = T at *
  clear hl e
  go_enter Try.func36, Try.ntmps36
  go_wp2_with (first | (go_at_call 67; with_reducible refine (RT.out _).mono ?_; rintro e w1 ⟨rfl, hb1⟩) | (go_at_call 68; with_reducible refine (RN.out _).mono ?_; rintro e w2 ⟨rfl, hb2⟩))
  go_ret
  exact ⟨rfl, hb1.trans (hb2.mono hb1.size)⟩
set_option maxRecDepth 100000 in
set_option maxHeartbeats 1000000 in
theorem r14err_any (key id : List UInt8) (hk : key.length ≤ 100000000000) (hid : id.length ≤ 60000) (v : Int) (w : World) :
    Calls Try.prog 31 #[.string ⟨key.toArray⟩, .string ⟨id.toArray⟩, .int .i64 v] w fun e w' => e = .returned (.int .i64 (L.err key id v : Int)) ∧ Below w.heap.size w w' := by
  have CR := Lib.hid (fun W => rcheck_any id W (by omega))
  have he : L.err key id v = if L.good key then L.errT id v else 1 := rfl
  have ht : L.errT id v = if (N.check id).2 ≠ 0 then (N.check id).2 else if v < 0 ∨ 1073741824 < v then 1 else 0 := rfl
  have hgd : L.good key = (decide (1 ≤ key.length) && decide (key.length ≤ 64)) := rfl
  generalize L.err key id v = E at *
  by_cases h0 : key.length = 0
  · have d0 : ((key.length : Int) == 0) = true := by rw [beq_iff_eq]; omega
    have d0' : (key.length == 0) = true := by rw [beq_iff_eq]; omega
    rw [hgd, decide_eq_false (show ¬ 1 ≤ key.length by omega), Bool.false_and, if_neg (by simp)] at he
    subst he
    clear hgd ht
    go_enter Try.func31, Try.ntmps31
    go_wp2
    go_ret
    exact ⟨rfl, Below.refl _ _⟩
  have d0 : ((key.length : Int) == 0) = false := by rw [beq_eq_false_iff_ne]; omega
  have d0' : (key.length == 0) = false := by rw [beq_eq_false_iff_ne]; omega
  by_cases h1 : 64 < key.length
  · have d1 : decide ((64 : Int) < (key.length : Int)) = true := by simp; omega
    have d1' : decide (64 < key.length) = true := by simp; omega
    rw [hgd, decide_eq_false (show ¬ key.length ≤ 64 by omega), Bool.and_false, if_neg (by simp)] at he
    subst he
    clear hgd ht
    go_enter Try.func31, Try.ntmps31
    go_wp2
    go_ret
    exact ⟨rfl, Below.refl _ _⟩
  have d1 : decide ((64 : Int) < (key.length : Int)) = false := by simp; omega
  have d1' : decide (64 < key.length) = false := by simp; omega
  rw [hgd, decide_eq_true (show key.length ≤ 64 by omega), decide_eq_true (show 1 ≤ key.length by omega), Bool.and_true, if_pos rfl, ht] at he
  clear hgd ht
  generalize (N.check id).1 = c1 at *
  generalize (N.check id).2 = c2 at *
  by_cases h2 : c2 = 0
  · subst h2
    rw [if_neg (by simp)] at he
    rw [show ((0 : Nat) : Int) = 0 from rfl] at CR
    by_cases h3 : v < 0
    · rw [if_pos (.inl h3)] at he
      subst he
      have d3 : decide (v < 0) = true := by simp; omega
      go_enter Try.func31, Try.ntmps31
      go_wp2_with (go_at_call 66; with_reducible refine (CR.out _).mono ?_; rintro e w1 ⟨rfl, hb1⟩)
      go_ret
      exact ⟨rfl, hb1⟩
    · have d3 : decide (v < 0) = false := by simp; omega
      by_cases h4 : 1073741824 < v
      · rw [if_pos (.inr h4)] at he
        subst he
        have d4 : decide (1073741824 < v) = true := by simp; omega
        go_enter Try.func31, Try.ntmps31
        go_wp2_with (go_at_call 66; with_reducible refine (CR.out _).mono ?_; rintro e w1 ⟨rfl, hb1⟩)
        go_ret
        exact ⟨rfl, hb1⟩
      · rw [if_neg (by omega)] at he
        subst he
        have d4 : decide (1073741824 < v) = false := by simp; omega
        go_enter Try.func31, Try.ntmps31
        go_wp2_with (go_at_call 66; with_reducible refine (CR.out _).mono ?_; rintro e w1 ⟨rfl, hb1⟩)
        go_ret
        exact ⟨rfl, hb1⟩
  · rw [if_pos h2] at he
    subst he
    have d2 : ((E : Int) != 0) = true := by rw [bne_iff_ne]; omega
    go_enter Try.func31, Try.ntmps31
    go_wp2_with (go_at_call 66; with_reducible refine (CR.out _).mono ?_; rintro e w1 ⟨rfl, hb1⟩)
    go_ret
    exact ⟨rfl, hb1⟩
end Go.Proofs.Ytgjmnhbkdccgpaa

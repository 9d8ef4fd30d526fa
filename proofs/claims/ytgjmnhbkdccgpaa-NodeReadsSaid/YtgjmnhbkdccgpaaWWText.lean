/- The walk of code.Writer.Text; texts as they are spelled. -/
import Derived.Test.YtgjmnhbkdccgpaaWWrite
import Derived.Test.YtgjmnhbkdccgpaaKit8
namespace Go.Proofs.Ytgjmnhbkdccgpaa
open Go.RowKit

namespace D
theorem bek_next (x : Nat) : ∀ k, bek x (k + 1) = bek (x / 256) k ++ [UInt8.ofNat x]
  | 0 => by simp [bek]
  | k + 1 => by
    rw [bek, bek_next x k, bek, List.cons_append, Nat.pow_succ, Nat.mul_comm, Nat.div_div_eq_div_mul]
theorem be_next {x : Nat} (h : x ≠ 0) : be x = be (x / 256) ++ [UInt8.ofNat x] := by
  unfold be
  rw [blen_pos h, bek_next]
theorem be_zero : be 0 = [] := by unfold be; rw [blen_zero]; rfl
theorem be_len2 (x : Nat) : (be x).length = blen x := by unfold be; rw [bek_length]
theorem numB_le9 (x : Nat) (h : x < 18446744073709551616) : (numB x).length ≤ 9 := by
  have := blen_le 8 x (by omega)
  unfold numB
  rw [List.length_cons, be_len2]
  omega
def textB (s : List UInt8) : List UInt8 := numB s.length ++ s
end D
set_option maxRecDepth 100000 in
set_option maxHeartbeats 1000000 in
theorem wtext_any (s : List UInt8) (hs : s.length ≤ 65536) (g : Nat) (v : Value) (xs : List UInt8) (w : World) (h : Wst w g v xs) (hx : xs.length ≤ 1000000000) :
    Calls Try.prog 102 #[.pointer (some ⟨g, 0, none⟩), .string ⟨s.toArray⟩] w fun e w' => e = .returned (.tuple #[]) ∧ ∃ v', Wst w' g v' (xs ++ D.textB s) ∧ Wto w g v w' v' := by
  have d1 : decide ((65536 : Int) < (s.length : Int)) = false := by simp; omega
  have d1' : decide (65536 < s.length) = false := by simp; omega
  have hnl := D.numB_le9 s.length (by omega)
  have Hn := Lib.hid (number_any s.length (by omega) g v xs w h (by omega))
  have hxs : (xs ++ D.numB s.length).length + s.length ≤ 140737488355328 := by rw [List.length_append]; omega
  have HE := Lib.hid (show xs ++ D.numB s.length ++ s = xs ++ D.textB s by rw [List.append_assoc]; rfl)
  clear hnl hx
  generalize D.numB s.length = nb at *
  generalize D.textB s = tb at *
  go_enter Try.func102, Try.ntmps102
  go_wp2_with (first | (go_at_call 72; with_reducible refine (Hn.out).mono ?_; rintro e w1 ⟨rfl, v1, hw1, ht1⟩; have c0 := hw1.blk.cellv (i := 0) (v := v1) rfl; have f0 := hw1.blk.free 0) | (at_builtin; refine wpList_append_buf_str rfl (.tmp 17) (.tmp 18) 36 9 rfl Try.underlying36 Try.underlying9 rfl hw1.buf s rfl hxs ?_; intro v2 w2 hb2 hg2 hr2; have bk := hw1.blk.grown hg2 (Ne.symm hw1.ne); have c2 := bk.cellv (i := 0) (v := v1) rfl; have f2 := bk.free 0; rcases hb2.form with ⟨e, hn0⟩ | ⟨gx, cx, e⟩ <;> subst e))
  all_goals
   go_end0
   try simp only [List.length_append, Nat.add_assoc] at hb2 hr2
   obtain ⟨hw3, ht3⟩ := wst_append hw1 hb2 (Below.refl _ _) hg2 hr2
   rw [HE.out] at hw3
   exact ⟨rfl, _, hw3, ht1.trans ht3⟩
end Go.Proofs.Ytgjmnhbkdccgpaa

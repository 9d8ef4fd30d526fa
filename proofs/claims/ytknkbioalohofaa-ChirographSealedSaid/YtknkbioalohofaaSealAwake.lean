/- The walks of Cut and of awake; texts as arguments. -/
import Derived.Test.YtknkbioalohofaaWRAll
import Derived.Test.YtknkbioalohofaaRow
namespace Go.Proofs.Ytknkbioalohofaa
open Go.ChangeShapes Go.WideShapes Go.ChangeAt Go.RowKit

section
variable {H : Type} {enc : TypeId × Value → H} {W : World} {base : Nat} {sp : Nat → Bool} {held : Bool} {v : Value} {d : DataW H} {p : List MemPlace}
set_option maxRecDepth 1000000 in
theorem open_text (hval : Value.okWide Try.prog W .any base 9 v) (h : DataW.Trod enc Try.prog W 0 sp held 9 v d p) : ∃ l : List UInt8, v = .string ⟨l.toArray⟩ ∧ l.length ≤ 9223372036854775807 := by
  obtain ⟨s, rfl, _, _, hs⟩ := Go.ChangeMaps.open_string Try.underlying9 hval h
  refine ⟨s.data.toList, rfl, ?_⟩
  rw [Array.length_toList]
  unfold maxLen at hs
  exact hs
end
set_option maxHeartbeats 1000000 in
/-- Cut. -/
theorem lcut_any (s : List UInt8) (n : Nat) (w : World) :
    Calls Try.prog 19 #[.string ⟨s.toArray⟩, .int .i64 (n : Int)] w fun e w' => e = .returned (.string ⟨(s.take n).toArray⟩) ∧ w = w' := by
  have hz := str_size s
  by_cases h : n < s.length
  · have d1 : decide ((n : Int) < ((⟨s.toArray⟩ : ByteArray).size : Int)) = true := by rw [hz]; simp; omega
    have d1' : decide (n < (⟨s.toArray⟩ : ByteArray).size) = true := by rw [hz]; simp; omega
    have hcut := str_upto_ s n (n : Int) rfl (by omega)
    clear hz h
    generalize s.take n = t at *
    generalize (⟨s.toArray⟩ : ByteArray) = S at *
    go_enter Try.func19, Try.ntmps19
    go_wp2
    go_ret
    exact ⟨rfl, rfl⟩
  · have d1 : decide ((n : Int) < ((⟨s.toArray⟩ : ByteArray).size : Int)) = false := by rw [hz]; simp; omega
    have d1' : decide (n < (⟨s.toArray⟩ : ByteArray).size) = false := by rw [hz]; simp; omega
    have Ht := Lib.hid (List.take_of_length_le (show s.length ≤ n by omega))
    clear hz h
    generalize hS : (⟨s.toArray⟩ : ByteArray) = S at *
    have HS := Lib.hid hS
    clear hS
    go_enter Try.func19, Try.ntmps19
    go_wp2
    go_ret
    rw [Ht.out, HS.out]
    exact ⟨rfl, rfl⟩
def digits9 : List UInt8 := [49, 50, 51, 52, 53, 54, 55, 56, 57]
theorem check9 : (C.check digits9).toNat = 3421780262 := by decide +kernel
def two : List UInt8 := C.wrap [] ++ C.wrap [] ++ [120]
theorem all_two : (C.all two).1.length = 2 ∧ (C.all two).2 = 16 := by decide +kernel
set_option maxRecDepth 100000 in
set_option maxHeartbeats 1000000 in
/-- awake. -/
theorem awake_any (w : World) : Calls Try.prog 21 #[] w fun e w' => e = .returned (.bool true) ∧ Below w.heap.size w w' := by
  have h1 : ∀ W, Calls Try.prog 20 #[.string ⟨#[]⟩] W fun e w' => e = .returned (.tuple #[.string ⟨(C.wrap []).toArray⟩, .int .i64 0]) ∧ Below W.heap.size W w' := fun W => wrap_any [] (by simp) W
  have hl := C.wrap_length []
  have hadd1 := str_add (C.wrap []) (C.wrap []) (by rw [hl]; decide)
  have hadd2 : ∀ w, (Op.stringOp .add ⟨(C.wrap [] ++ C.wrap []).toArray⟩ ⟨#[120]⟩).run Try.prog w = .ok (.string ⟨two.toArray⟩) w := str_add (C.wrap [] ++ C.wrap []) [120] (by rw [List.length_append, hl]; decide)
  have h2 := all_any two (by unfold two; rw [List.length_append, List.length_append, hl]; decide)
  have h3 : ∀ W, Calls Try.prog 22 #[.string ⟨#[49, 50, 51, 52, 53, 54, 55, 56, 57]⟩] W fun e w' => e = .returned (.int .u32 ((C.check digits9).toNat : Int)) ∧ Below W.heap.size W w' := fun W => check_any digits9 (by decide) W
  rw [check9, show ((3421780262 : Nat) : Int) = 3421780262 from rfl] at h3
  obtain ⟨a1, a2⟩ := all_two
  have h8 : ((⟨(C.wrap []).toArray⟩ : ByteArray).size : Int) = 8 := by rw [str_size, hl]; rfl
  rw [a2, show ((16 : Nat) : Int) = 16 from rfl] at h2
  have H1 := Lib.hid h1
  have H2 := Lib.hid h2
  have H3 := Lib.hid h3
  clear h1 h2 h3 a2 hl
  generalize C.wrap [] ++ C.wrap [] = ww at hadd1 hadd2
  generalize C.wrap [] = wr at *
  generalize (C.all two).1 = ts at *
  generalize two = tw at *
  go_enter Try.func21, Try.ntmps21
  go_wp2_with (first | (go_at_call 20; with_reducible refine (H1.out _).mono ?_; rintro e w1 ⟨rfl, hb1⟩) | (go_at_call 27; with_reducible refine (H2.out _).mono ?_; rintro e w2 ⟨v, rfl, hrow, hown, hb2⟩; obtain ⟨g, cap, rfl, hc⟩ := hrow.form_len (n := 2) (by rw [List.length_map, a1]) (by omega); clear hrow hown) | (go_at_call 22; with_reducible refine (H3.out _).mono ?_; rintro e w3 ⟨rfl, hb3⟩))
  go_ret
  exact ⟨rfl, (hb1.trans (hb2.mono hb1.size)).trans (hb3.mono (Nat.le_trans hb1.size hb2.size))⟩
end Go.Proofs.Ytknkbioalohofaa

/- The walks of the levels' small functions: Compare, Or, order, key, meets. -/
import Derived.Test.YtnfabofkfnmplaaLvK
namespace Go.Proofs.Ytnfabofkfnmplaa
open Go.RowKit

namespace L
def keyB (k : List UInt8) : Bool := decide (k ≠ []) && decide (k.length ≤ 100)
end L
theorem nan_i (a : Int) (w : World) : Calls Try.prog 34 #[.int .i64 a] w fun e w' => e = .returned (.bool false) ∧ w = w' := by
  go_enter Try.func34, Try.ntmps34
  go_wp2
  go_ret
  exact ⟨by simp, rfl⟩
theorem nan_s (a : List UInt8) (w : World) : Calls Try.prog 39 #[.string ⟨a.toArray⟩] w fun e w' => e = .returned (.bool false) ∧ w = w' := by
  go_enter Try.func39, Try.ntmps39
  go_wp2
  go_ret
  exact ⟨by simp, rfl⟩
set_option maxRecDepth 100000 in
set_option maxHeartbeats 1000000 in
theorem cmp_i (a b : Nat) (w : World) : Calls Try.prog 23 #[.int .i64 (a : Int), .int .i64 (b : Int)] w fun e w' => e = .returned (.int .i64 (L.cmpN a b)) ∧ w = w' := by
  have NN := Lib.hid (fun a W => nan_i a W)
  by_cases h1 : a < b
  · have d1 : decide ((a : Int) < (b : Int)) = true := decide_eq_true (by omega)
    have d1' : decide (a < b) = true := decide_eq_true h1
    have hr := Lib.hid (show L.cmpN a b = -1 by unfold L.cmpN; rw [if_pos h1])
    clear h1
    go_enter Try.func23, Try.ntmps23
    go_wp2_with (go_at_call 34; (with_reducible refine (NN.out _ _).mono ?_); rintro e w1 ⟨rfl, rfl⟩)
    go_ret
    exact ⟨by (rw [hr.out]; try rfl), rfl⟩
  · have d1 : decide ((a : Int) < (b : Int)) = false := decide_eq_false (by omega)
    have d1' : decide (a < b) = false := decide_eq_false h1
    by_cases h2 : b < a
    · have d2 : decide ((b : Int) < (a : Int)) = true := decide_eq_true (by omega)
      have d2' : decide (b < a) = true := decide_eq_true h2
      have hr := Lib.hid (show L.cmpN a b = 1 by unfold L.cmpN; rw [if_neg h1, if_pos h2])
      clear h1 h2
      go_enter Try.func23, Try.ntmps23
      go_wp2_with (go_at_call 34; (with_reducible refine (NN.out _ _).mono ?_); rintro e w1 ⟨rfl, rfl⟩)
      go_ret
      exact ⟨by (rw [hr.out]; try rfl), rfl⟩
    · have d2 : decide ((b : Int) < (a : Int)) = false := decide_eq_false (by omega)
      have d2' : decide (b < a) = false := decide_eq_false h2
      have hr := Lib.hid (show L.cmpN a b = 0 by unfold L.cmpN; rw [if_neg h1, if_neg h2])
      clear h1 h2
      go_enter Try.func23, Try.ntmps23
      go_wp2_with (go_at_call 34; (with_reducible refine (NN.out _ _).mono ?_); rintro e w1 ⟨rfl, rfl⟩)
      go_ret
      exact ⟨by (rw [hr.out]; try rfl), rfl⟩
set_option maxRecDepth 100000 in
set_option maxHeartbeats 1000000 in
theorem cmp_s (a b : List UInt8) (w : World) : Calls Try.prog 31 #[.string ⟨a.toArray⟩, .string ⟨b.toArray⟩] w fun e w' => e = .returned (.int .i64 (L.cmpB a b)) ∧ w = w' := by
  have NN := Lib.hid (fun a W => nan_s a W)
  have s1 : Op.bytesLess a b = L.B a b := L.less_before a b
  have s2 := str_gtr a b
  have hd : L.cmpB a b = if L.B a b = true then -1 else if L.B b a = true then 1 else 0 := rfl
  generalize L.B a b = x at *
  generalize L.B b a = y at *
  generalize L.cmpB a b = r at *
  cases x with
  | true =>
    rw [if_pos rfl] at hd
    have hd := Lib.hid hd
    go_enter Try.func31, Try.ntmps31
    go_wp2_with (go_at_call 39; (with_reducible refine (NN.out _ _).mono ?_); rintro e w1 ⟨rfl, rfl⟩)
    go_ret
    exact ⟨by (rw [hd.out]; try rfl), rfl⟩
  | false =>
    rw [if_neg (by simp)] at hd
    cases y with
    | true =>
      rw [if_pos rfl] at hd
      have hd := Lib.hid hd
      go_enter Try.func31, Try.ntmps31
      go_wp2_with (go_at_call 39; (with_reducible refine (NN.out _ _).mono ?_); rintro e w1 ⟨rfl, rfl⟩)
      go_ret
      exact ⟨by (rw [hd.out]; try rfl), rfl⟩
    | false =>
      rw [if_neg (by simp)] at hd
      have hd := Lib.hid hd
      go_enter Try.func31, Try.ntmps31
      go_wp2_with (go_at_call 39; (with_reducible refine (NN.out _ _).mono ?_); rintro e w1 ⟨rfl, rfl⟩)
      go_ret
      exact ⟨by (rw [hd.out]; try rfl), rfl⟩
set_option maxRecDepth 100000 in
set_option maxHeartbeats 1000000 in
theorem key_any (k : List UInt8) (w : World) : Calls Try.prog 26 #[.string ⟨k.toArray⟩] w fun e w' => e = .returned (.bool (L.keyB k)) ∧ w = w' := by
  have hz := str_size k
  by_cases h1 : k = []
  · subst h1
    go_enter Try.func26, Try.ntmps26
    go_wp2
    go_ret
    exact ⟨rfl, rfl⟩
  · have e1 : (k == []) = false := by rw [beq_eq_false_iff_ne]; exact h1
    have e1' : k.isEmpty = false := by simpa using h1
    have hr := Lib.hid (show L.keyB k = decide (k.length ≤ 100) by unfold L.keyB; rw [decide_eq_true h1, Bool.true_and])
    by_cases h2 : k.length ≤ 100
    · have d2 : decide ((k.length : Int) ≤ 100) = true := decide_eq_true (by omega)
      have d2' := Lib.hid (decide_eq_true h2)
      clear h1 h2
      go_enter Try.func26, Try.ntmps26
      go_wp2
      go_ret
      exact ⟨by (rw [hr.out, d2'.out]; try rfl), rfl⟩
    · have d2 : decide ((k.length : Int) ≤ 100) = false := decide_eq_false (by omega)
      have d2' := Lib.hid (decide_eq_false h2)
      clear h1 h2
      go_enter Try.func26, Try.ntmps26
      go_wp2
      go_ret
      exact ⟨by (rw [hr.out, d2'.out]; try rfl), rfl⟩
set_option maxRecDepth 100000 in
set_option maxHeartbeats 1000000 in
theorem meets_any (a b : L.Fi) (w : World) : Calls Try.prog 33 #[fiV a, fiV b] w fun e w' => e = .returned (.bool (L.meets (a.first, a.last) b)) ∧ Below w.heap.size w w' := by
  obtain ⟨_, _, hb⟩ := two_new w #[.int .i64 (a.num : Int), .int .i64 (a.lev : Int), .int .i64 (a.size : Int), .string ⟨a.first.toArray⟩, .string ⟨a.last.toArray⟩] #[.int .i64 (b.num : Int), .int .i64 (b.lev : Int), .int .i64 (b.size : Int), .string ⟨b.first.toArray⟩, .string ⟨b.last.toArray⟩] 33 33
  have s1 := str_leq a.first b.last
  have s2 := str_leq b.first a.last
  have hd : L.meets (a.first, a.last) b = (!L.B b.last a.first && !L.B a.last b.first) := rfl
  generalize L.B b.last a.first = x at *
  generalize L.B a.last b.first = y at *
  generalize L.meets (a.first, a.last) b = r at *
  unfold fiV
  cases x with
  | true =>
    have hd := Lib.hid hd
    go_enter Try.func33, Try.ntmps33
    go_wp2
    go_ret
    exact ⟨by rw [hd.out]; rfl, hb⟩
  | false =>
    have hd := Lib.hid hd
    go_enter Try.func33, Try.ntmps33
    go_wp2
    go_ret
    exact ⟨by rw [hd.out]; simp, hb⟩
end Go.Proofs.Ytnfabofkfnmplaa

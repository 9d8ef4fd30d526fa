/- The walk of seal.Open. -/
import Derived.Test.YtknkbioalohofaaWWrap
namespace Go.Proofs.Ytknkbioalohofaa
open Go.RowKit

theorem or_i64 (a b k : Nat) (ha : a * 2 ^ k < 9223372036854775808) (hb : b < 2 ^ k) (hb2 : b < 9223372036854775808) : bits .or .i64 ((a * 2 ^ k : Nat) : Int) (b : Int) = ((a * 2 ^ k + b : Nat) : Int) := by
  rw [i64_or_nat _ _ ha hb2, Nat.mul_comm, Nat.two_pow_add_eq_or_of_lt hb]
theorem or_u32c (a b k : Nat) (ha : a * 2 ^ k < 4294967296) (hb : b < 2 ^ k) (hb2 : b < 4294967296) : bits .or .u32 ((a * 2 ^ k : Nat) : Int) (b : Int) = ((a * 2 ^ k + b : Nat) : Int) := by
  rw [u32_or_nat _ _ ha hb2, Nat.mul_comm, Nat.two_pow_add_eq_or_of_lt hb]
/-- Three bytes, as the walk puts them together. -/
structure Three (b1 b2 b3 : Nat) (p1 p2 p3 n : Nat) : Prop where
  w1 : IntKind.i64.wrap (b1 : Int) = b1
  w2 : IntKind.i64.wrap (b2 : Int) = b2
  w3 : IntKind.i64.wrap (b3 : Int) = b3
  m1 : IntKind.i64.wrap ((b1 : Int) * 65536) = p1
  m2 : IntKind.i64.wrap ((b2 : Int) * 256) = p2
  o1 : bits .or .i64 (p1 : Int) (p2 : Int) = p3
  o2 : bits .or .i64 (p3 : Int) (b3 : Int) = n
theorem three (b1 b2 b3 : Nat) (h1 : b1 < 256) (h2 : b2 < 256) (h3 : b3 < 256) : Three b1 b2 b3 (b1 * 65536) (b2 * 256) (b1 * 65536 + b2 * 256) (b1 * 65536 + b2 * 256 + b3) where
  w1 := IntWalk.i64_in _ (by omega)
  w2 := IntWalk.i64_in _ (by omega)
  w3 := IntWalk.i64_in _ (by omega)
  m1 := by rw [IntWalk.i64_in _ (by omega)]; omega
  m2 := by rw [IntWalk.i64_in _ (by omega)]; omega
  o1 := or_i64 b1 (b2 * 256) 16 (by omega) (by omega) (by omega)
  o2 := by
    have := or_i64 (b1 * 256 + b2) b3 8 (by omega) (by omega) (by omega)
    rw [show (b1 * 256 + b2) * 2 ^ 8 = b1 * 65536 + b2 * 256 from by omega] at this
    exact this
/-- FourC bytes, as the walk puts them together. -/
structure FourC (b1 b2 b3 b4 : Nat) (p1 p2 p3 p4 p5 n : Nat) : Prop where
  m1 : IntKind.u32.wrap ((b1 : Int) * 16777216) = p1
  m2 : IntKind.u32.wrap ((b2 : Int) * 65536) = p2
  m3 : IntKind.u32.wrap ((b3 : Int) * 256) = p3
  w1 : IntKind.u32.wrap (b1 : Int) = b1
  w2 : IntKind.u32.wrap (b2 : Int) = b2
  w3 : IntKind.u32.wrap (b3 : Int) = b3
  w4 : IntKind.u32.wrap (b4 : Int) = b4
  o1 : bits .or .u32 (p1 : Int) (p2 : Int) = p4
  o2 : bits .or .u32 (p4 : Int) (p3 : Int) = p5
  o3 : bits .or .u32 (p5 : Int) (b4 : Int) = n
theorem wrap_u32_inc (x : Int) (h : 0 ≤ x ∧ x < 4294967296) : IntKind.u32.wrap x = x := by
  rw [IntKind.wrap_u32]; omega
theorem four_c (b1 b2 b3 b4 : Nat) (h1 : b1 < 256) (h2 : b2 < 256) (h3 : b3 < 256) (h4 : b4 < 256) : FourC b1 b2 b3 b4 (b1 * 16777216) (b2 * 65536) (b3 * 256) (b1 * 16777216 + b2 * 65536) (b1 * 16777216 + b2 * 65536 + b3 * 256) (b1 * 16777216 + b2 * 65536 + b3 * 256 + b4) where
  w1 := wrap_u32_inc _ (by omega)
  w2 := wrap_u32_inc _ (by omega)
  w3 := wrap_u32_inc _ (by omega)
  w4 := wrap_u32_inc _ (by omega)
  m1 := by rw [wrap_u32_inc _ (by omega)]; omega
  m2 := by rw [wrap_u32_inc _ (by omega)]; omega
  m3 := by rw [wrap_u32_inc _ (by omega)]; omega
  o1 := or_u32c b1 (b2 * 65536) 24 (by omega) (by omega) (by omega)
  o2 := by
    have := or_u32c (b1 * 256 + b2) (b3 * 256) 16 (by omega) (by omega) (by omega)
    rw [show (b1 * 256 + b2) * 2 ^ 16 = b1 * 16777216 + b2 * 65536 from by omega] at this
    exact this
  o3 := by
    have := or_u32c (b1 * 65536 + b2 * 256 + b3) b4 8 (by omega) (by omega) (by omega)
    rw [show (b1 * 65536 + b2 * 256 + b3) * 2 ^ 8 = b1 * 16777216 + b2 * 65536 + b3 * 256 from by omega] at this
    exact this
theorem told_three (s : List UInt8) : ∃ p1 p2 p3, Three (s.getD 1 0).toNat (s.getD 2 0).toNat (s.getD 3 0).toNat p1 p2 p3 (C.toldN s) :=
  ⟨_, _, _, three _ _ _ (s.getD 1 0).toNat_lt (s.getD 2 0).toNat_lt (s.getD 3 0).toNat_lt⟩
theorem told_four (s : List UInt8) : ∃ q1 q2 q3 q4 q5, FourC (s.getD 4 0).toNat (s.getD 5 0).toNat (s.getD 6 0).toNat (s.getD 7 0).toNat q1 q2 q3 q4 q5 (C.toldC s) :=
  ⟨_, _, _, _, _, four_c _ _ _ _ (s.getD 4 0).toNat_lt (s.getD 5 0).toNat_lt (s.getD 6 0).toNat_lt (s.getD 7 0).toNat_lt⟩
theorem below_refl_drewN (w : World) (n : Nat) : Below w.heap.size w (w.drewN n) := below_drewN (Below.refl _ _) n
set_option maxRecDepth 100000 in
set_option maxHeartbeats 2000000 in
theorem open_short (s : List UInt8) (h : s.length < 8) (w : World) :
    Calls Try.prog 25 #[.string ⟨s.toArray⟩] w fun e w' => e = .returned (.tuple #[.string ⟨#[]⟩, .int .i64 0, .int .i64 5]) ∧ w = w' := by
  have hz := str_size s
  have d1 : decide (((⟨s.toArray⟩ : ByteArray).size : Int) < 8) = true := by rw [hz]; simp; omega
  have d2 : decide ((⟨s.toArray⟩ : ByteArray).size < 8) = true := by rw [hz]; simp; omega
  clear hz h
  generalize (⟨s.toArray⟩ : ByteArray) = S at *
  go_enter Try.func25, Try.ntmps25
  go_wp2
  go_ret3
  exact ⟨rfl, rfl⟩
set_option maxRecDepth 100000 in
set_option maxHeartbeats 2000000 in
theorem open_mark (s : List UInt8) (h : 8 ≤ s.length) (hm : (s.getD 0 0).toNat ≠ 94) (w : World) :
    Calls Try.prog 25 #[.string ⟨s.toArray⟩] w fun e w' => e = .returned (.tuple #[.string ⟨#[]⟩, .int .i64 0, .int .i64 4]) ∧ ∃ n, w' = w.drewN n := by
  have hz := str_size s
  have d1 : decide (((⟨s.toArray⟩ : ByteArray).size : Int) < 8) = false := by rw [hz]; simp; omega
  have d2 : decide ((⟨s.toArray⟩ : ByteArray).size < 8) = false := by rw [hz]; simp; omega
  have i0 := str_index_ s 0 0 rfl (by omega)
  have i1 := str_index_ s 1 1 rfl (by omega)
  have i2 := str_index_ s 2 2 rfl (by omega)
  have i3 := str_index_ s 3 3 rfl (by omega)
  have dm : (((s.getD 0 0).toNat : Int) == 94) = false := by rw [beq_eq_false_iff_ne]; omega
  have dm2 : (((s.getD 0 0).toNat : Int) != 94) = true := by rw [bne_iff_ne]; omega
  generalize (s.getD 0 0).toNat = b0 at i0 dm dm2
  generalize (s.getD 1 0).toNat = b1 at i1
  generalize (s.getD 2 0).toNat = b2 at i2
  generalize (s.getD 3 0).toNat = b3 at i3
  clear hz h hm
  generalize (⟨s.toArray⟩ : ByteArray) = S at *
  go_enter Try.func25, Try.ntmps25
  go_wp2
  go_quiet (fail)
  go_wp2
  go_ret3
  exact ⟨rfl, _, rfl⟩
set_option maxRecDepth 100000 in
set_option maxHeartbeats 2000000 in
/-- seal.Open, where the head is right: up to the length. -/
theorem open_long (s : List UInt8) (h : 8 ≤ s.length) (hm : (s.getD 0 0).toNat = 94) (hn : 65536 < C.toldN s) (w : World) :
    Calls Try.prog 25 #[.string ⟨s.toArray⟩] w fun e w' => e = .returned (.tuple #[.string ⟨#[]⟩, .int .i64 0, .int .i64 4]) ∧ ∃ n, w' = w.drewN n := by
  have hz := str_size s
  have d1 : decide (((⟨s.toArray⟩ : ByteArray).size : Int) < 8) = false := by rw [hz]; simp; omega
  have d2 : decide ((⟨s.toArray⟩ : ByteArray).size < 8) = false := by rw [hz]; simp; omega
  have i0 := str_index_ s 0 0 rfl (by omega)
  have i1 := str_index_ s 1 1 rfl (by omega)
  have i2 := str_index_ s 2 2 rfl (by omega)
  have i3 := str_index_ s 3 3 rfl (by omega)
  have dm : (((s.getD 0 0).toNat : Int) == 94) = true := by rw [hm]; rfl
  have dm2 : (((s.getD 0 0).toNat : Int) != 94) = false := by rw [hm]; rfl
  obtain ⟨p1, p2, p3, h3⟩ := told_three s
  obtain ⟨w1, w2, w3, m1, m2, o1, o2⟩ := h3
  generalize (s.getD 0 0).toNat = b0 at i0 dm dm2
  generalize (s.getD 1 0).toNat = b1 at i1 w1 m1
  generalize (s.getD 2 0).toNat = b2 at i2 w2 m2
  generalize (s.getD 3 0).toNat = b3 at i3 w3 o2
  clear hz hm
  generalize C.toldN s = N at *
  generalize (⟨s.toArray⟩ : ByteArray) = S at *
  have dn1 : decide ((65536 : Int) < (N : Int)) = true := by simp; omega
  clear hn
  go_enter Try.func25, Try.ntmps25
  go_wp2
  go_quiet (fail)
  go_wp2
  go_ret3
  exact ⟨rfl, _, rfl⟩
set_option maxRecDepth 100000 in
set_option maxHeartbeats 2000000 in
theorem open_end (s : List UInt8) (h : 8 ≤ s.length) (hm : (s.getD 0 0).toNat = 94) (hn : C.toldN s ≤ 65536) (hl : s.length < 8 + C.toldN s) (w : World) :
    Calls Try.prog 25 #[.string ⟨s.toArray⟩] w fun e w' => e = .returned (.tuple #[.string ⟨#[]⟩, .int .i64 0, .int .i64 5]) ∧ ∃ n, w' = w.drewN n := by
  have hz0 := str_size s
  have hz := str_size s
  have d1 : decide (((⟨s.toArray⟩ : ByteArray).size : Int) < 8) = false := by rw [hz]; simp; omega
  have d2 : decide ((⟨s.toArray⟩ : ByteArray).size < 8) = false := by rw [hz]; simp; omega
  have i0 := str_index_ s 0 0 rfl (by omega)
  have i1 := str_index_ s 1 1 rfl (by omega)
  have i2 := str_index_ s 2 2 rfl (by omega)
  have i3 := str_index_ s 3 3 rfl (by omega)
  have dm : (((s.getD 0 0).toNat : Int) == 94) = true := by rw [hm]; rfl
  have dm2 : (((s.getD 0 0).toNat : Int) != 94) = false := by rw [hm]; rfl
  obtain ⟨p1, p2, p3, h3⟩ := told_three s
  obtain ⟨w1, w2, w3, m1, m2, o1, o2⟩ := h3
  generalize (s.getD 0 0).toNat = b0 at i0 dm dm2
  generalize (s.getD 1 0).toNat = b1 at i1 w1 m1
  generalize (s.getD 2 0).toNat = b2 at i2 w2 m2
  generalize (s.getD 3 0).toNat = b3 at i3 w3 o2
  clear hz hm
  generalize C.toldN s = N at *
  generalize (⟨s.toArray⟩ : ByteArray) = S at *
  have dn1 : decide ((65536 : Int) < (N : Int)) = false := by simp; omega
  have hnb : (N : Int) ≤ 65536 := by omega
  have dl : decide ((S.size : Int) < 8 + (N : Int)) = true := by rw [hz0]; simp; omega
  have dl2 : decide (S.size < 8 + N) = true := by rw [hz0]; simp; omega
  clear hn hl hz0
  go_enter Try.func25, Try.ntmps25
  go_wp2
  go_quiet (fail)
  go_wp2
  go_ret3
  exact ⟨rfl, _, rfl⟩
set_option maxRecDepth 100000 in
set_option maxHeartbeats 2000000 in
theorem open_sum (s : List UInt8) (h : 8 ≤ s.length) (hm : (s.getD 0 0).toNat = 94) (hn : C.toldN s ≤ 65536) (hl : 8 + C.toldN s ≤ s.length) (hc : ¬ (C.check (s.take 4 ++ (s.drop 8).take (C.toldN s))).toNat = C.toldC s) (w : World) :
    Calls Try.prog 25 #[.string ⟨s.toArray⟩] w fun e w' => e = .returned (.tuple #[.string ⟨#[]⟩, .int .i64 0, .int .i64 6]) ∧ Below w.heap.size w w' := by
  have hz0 := str_size s
  have hmid := str_mid_ s 8 (8 + C.toldN s) 8 (8 + (C.toldN s : Int)) rfl (by omega) (by omega) hl
  rw [Nat.add_sub_cancel_left] at hmid
  have hup := str_upto_ s 4 4 rfl (by omega)
  have hadd := str_add (s.take 4) ((s.drop 8).take (C.toldN s)) (by simp; omega)
  have H1 := Lib.hid (check_any (s.take 4 ++ (s.drop 8).take (C.toldN s)) (by simp; omega))
  have j4 := str_index_ s 4 4 rfl (by omega)
  have j5 := str_index_ s 5 5 rfl (by omega)
  have j6 := str_index_ s 6 6 rfl (by omega)
  have j7 := str_index_ s 7 7 rfl (by omega)
  obtain ⟨q1, q2, q3, q4, q5, h4⟩ := told_four s
  obtain ⟨y1, y2, y3, y4, y5, y6, y7, y8, y9, y10⟩ := h4
  generalize (s.getD 4 0).toNat = c4 at j4 y1 y4
  generalize (s.getD 5 0).toNat = c5 at j5 y2 y5
  generalize (s.getD 6 0).toNat = c6 at j6 y3 y6
  generalize (s.getD 7 0).toNat = c7 at j7 y7 y10
  have hz := str_size s
  have d1 : decide (((⟨s.toArray⟩ : ByteArray).size : Int) < 8) = false := by rw [hz]; simp; omega
  have d2 : decide ((⟨s.toArray⟩ : ByteArray).size < 8) = false := by rw [hz]; simp; omega
  have i0 := str_index_ s 0 0 rfl (by omega)
  have i1 := str_index_ s 1 1 rfl (by omega)
  have i2 := str_index_ s 2 2 rfl (by omega)
  have i3 := str_index_ s 3 3 rfl (by omega)
  have dm : (((s.getD 0 0).toNat : Int) == 94) = true := by rw [hm]; rfl
  have dm2 : (((s.getD 0 0).toNat : Int) != 94) = false := by rw [hm]; rfl
  obtain ⟨p1, p2, p3, h3⟩ := told_three s
  obtain ⟨w1, w2, w3, m1, m2, o1, o2⟩ := h3
  generalize (s.getD 0 0).toNat = b0 at i0 dm dm2
  generalize (s.getD 1 0).toNat = b1 at i1 w1 m1
  generalize (s.getD 2 0).toNat = b2 at i2 w2 m2
  generalize (s.getD 3 0).toNat = b3 at i3 w3 o2
  clear hz hm
  generalize C.toldN s = N at *
  generalize (⟨s.toArray⟩ : ByteArray) = S at *
  have dn1 : decide ((65536 : Int) < (N : Int)) = false := by simp; omega
  have hnb : (N : Int) ≤ 65536 := by omega
  have dl : decide ((S.size : Int) < 8 + (N : Int)) = false := by rw [hz0]; simp; omega
  have dl2 : decide (S.size < 8 + N) = false := by rw [hz0]; simp; omega
  generalize s.take 4 ++ (s.drop 8).take N = U at *
  generalize C.toldC s = X at *
  clear hn hl hz0
  have dc : (((C.check U).toNat : Int) == (X : Int)) = false := by rw [beq_eq_false_iff_ne]; omega
  clear hc
  go_enter Try.func25, Try.ntmps25
  go_wp2
  go_quiet (fail)
  go_wp2
  go_quiet (fail)
  go_wp2_with (go_at_call 22; with_reducible refine (H1.out _).mono ?_; rintro e wc ⟨rfl, hbc⟩)
  go_ret3
  exact ⟨rfl, ((below_refl_drewN _ _).trans (hbc.mono (Nat.le_refl _)))⟩
set_option maxRecDepth 100000 in
set_option maxHeartbeats 2000000 in
theorem open_ok (s : List UInt8) (h : 8 ≤ s.length) (hm : (s.getD 0 0).toNat = 94) (hn : C.toldN s ≤ 65536) (hl : 8 + C.toldN s ≤ s.length) (hc : (C.check (s.take 4 ++ (s.drop 8).take (C.toldN s))).toNat = C.toldC s) (w : World) :
    Calls Try.prog 25 #[.string ⟨s.toArray⟩] w fun e w' => e = .returned (.tuple #[.string ⟨((s.drop 8).take (C.toldN s)).toArray⟩, .int .i64 ((8 + C.toldN s : Nat) : Int), .int .i64 0]) ∧ Below w.heap.size w w' := by
  have hz0 := str_size s
  have hmid := str_mid_ s 8 (8 + C.toldN s) 8 (8 + (C.toldN s : Int)) rfl (by omega) (by omega) hl
  rw [Nat.add_sub_cancel_left] at hmid
  have hup := str_upto_ s 4 4 rfl (by omega)
  have hadd := str_add (s.take 4) ((s.drop 8).take (C.toldN s)) (by simp; omega)
  have H1 := Lib.hid (check_any (s.take 4 ++ (s.drop 8).take (C.toldN s)) (by simp; omega))
  have j4 := str_index_ s 4 4 rfl (by omega)
  have j5 := str_index_ s 5 5 rfl (by omega)
  have j6 := str_index_ s 6 6 rfl (by omega)
  have j7 := str_index_ s 7 7 rfl (by omega)
  obtain ⟨q1, q2, q3, q4, q5, h4⟩ := told_four s
  obtain ⟨y1, y2, y3, y4, y5, y6, y7, y8, y9, y10⟩ := h4
  generalize (s.getD 4 0).toNat = c4 at j4 y1 y4
  generalize (s.getD 5 0).toNat = c5 at j5 y2 y5
  generalize (s.getD 6 0).toNat = c6 at j6 y3 y6
  generalize (s.getD 7 0).toNat = c7 at j7 y7 y10
  have hz := str_size s
  have d1 : decide (((⟨s.toArray⟩ : ByteArray).size : Int) < 8) = false := by rw [hz]; simp; omega
  have d2 : decide ((⟨s.toArray⟩ : ByteArray).size < 8) = false := by rw [hz]; simp; omega
  have i0 := str_index_ s 0 0 rfl (by omega)
  have i1 := str_index_ s 1 1 rfl (by omega)
  have i2 := str_index_ s 2 2 rfl (by omega)
  have i3 := str_index_ s 3 3 rfl (by omega)
  have dm : (((s.getD 0 0).toNat : Int) == 94) = true := by rw [hm]; rfl
  have dm2 : (((s.getD 0 0).toNat : Int) != 94) = false := by rw [hm]; rfl
  obtain ⟨p1, p2, p3, h3⟩ := told_three s
  obtain ⟨w1, w2, w3, m1, m2, o1, o2⟩ := h3
  generalize (s.getD 0 0).toNat = b0 at i0 dm dm2
  generalize (s.getD 1 0).toNat = b1 at i1 w1 m1
  generalize (s.getD 2 0).toNat = b2 at i2 w2 m2
  generalize (s.getD 3 0).toNat = b3 at i3 w3 o2
  clear hz hm
  generalize C.toldN s = N at *
  generalize (⟨s.toArray⟩ : ByteArray) = S at *
  have dn1 : decide ((65536 : Int) < (N : Int)) = false := by simp; omega
  have hnb : (N : Int) ≤ 65536 := by omega
  have dl : decide ((S.size : Int) < 8 + (N : Int)) = false := by rw [hz0]; simp; omega
  have dl2 : decide (S.size < 8 + N) = false := by rw [hz0]; simp; omega
  generalize s.take 4 ++ (s.drop 8).take N = U at *
  generalize C.toldC s = X at *
  clear hn hl hz0
  have dc : (((C.check U).toNat : Int) == (X : Int)) = true := by rw [beq_iff_eq]; omega
  clear hc
  go_enter Try.func25, Try.ntmps25
  go_wp2
  go_quiet (fail)
  go_wp2
  go_quiet (fail)
  go_wp2_with (go_at_call 22; with_reducible refine (H1.out _).mono ?_; rintro e wc ⟨rfl, hbc⟩)
  go_ret3
  exact ⟨rfl, ((below_refl_drewN _ _).trans (hbc.mono (Nat.le_refl _)))⟩
/-- seal.Open. -/
theorem open_any (s : List UInt8) (w : World) :
    Calls Try.prog 25 #[.string ⟨s.toArray⟩] w fun e w' => e = .returned (.tuple #[.string ⟨(C.opn s).1.toArray⟩, .int .i64 ((C.opn s).2.1 : Int), .int .i64 ((C.opn s).2.2 : Int)]) ∧ Below w.heap.size w w' := by
  by_cases h : s.length < 8
  · have e : C.opn s = ([], 0, 5) := by unfold C.opn; rw [if_pos h]
    rw [e]
    exact (open_short s h w).mono fun _ _ ⟨h1, h2⟩ => ⟨h1, h2 ▸ Below.refl _ _⟩
  · by_cases hm : (s.getD 0 0).toNat = 94
    · by_cases hn : 65536 < C.toldN s
      · have e : C.opn s = ([], 0, 4) := by unfold C.opn; rw [if_neg h, if_neg (by simpa using hm), if_pos hn]
        rw [e]
        exact (open_long s (by omega) hm hn w).mono fun _ _ ⟨h1, n, h2⟩ => ⟨h1, h2 ▸ below_refl_drewN _ _⟩
      · by_cases hl : s.length < 8 + C.toldN s
        · have e : C.opn s = ([], 0, 5) := by unfold C.opn; rw [if_neg h, if_neg (by simpa using hm), if_neg hn, if_pos hl]
          rw [e]
          exact (open_end s (by omega) hm (by omega) hl w).mono fun _ _ ⟨h1, n, h2⟩ => ⟨h1, h2 ▸ below_refl_drewN _ _⟩
        · by_cases hc : (C.check (s.take 4 ++ (s.drop 8).take (C.toldN s))).toNat = C.toldC s
          · have e : C.opn s = ((s.drop 8).take (C.toldN s), 8 + C.toldN s, 0) := by unfold C.opn; rw [if_neg h, if_neg (by simpa using hm), if_neg hn, if_neg hl, if_pos hc]
            rw [e]
            exact open_ok s (by omega) hm (by omega) (by omega) hc w
          · have e : C.opn s = ([], 0, 6) := by unfold C.opn; rw [if_neg h, if_neg (by simpa using hm), if_neg hn, if_neg hl, if_neg hc]
            rw [e]
            exact open_sum s (by omega) hm (by omega) (by omega) hc w
    · have e : C.opn s = ([], 0, 4) := by unfold C.opn; rw [if_neg h, if_pos (by simpa using hm)]
      rw [e]
      exact (open_mark s (by omega) hm w).mono fun _ _ ⟨h1, n, h2⟩ => ⟨h1, h2 ▸ below_refl_drewN _ _⟩
end Go.Proofs.Ytknkbioalohofaa

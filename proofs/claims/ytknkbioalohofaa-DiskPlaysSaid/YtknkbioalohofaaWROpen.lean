/- The walks of the reference's Wrap and Open. -/
import Derived.Test.YtknkbioalohofaaWOpen
namespace Go.Proofs.Ytknkbioalohofaa
open Go.RowKit

theorem four_inj {x y : Nat} (hx : x < 4294967296) (hy : y < 4294967296) (h : C.four x = C.four y) : x = y := by
  unfold C.four at h
  simp only [List.cons.injEq, and_true] at h
  obtain ⟨h1, h2, h3, h4⟩ := h
  have g1 := congrArg UInt8.toNat h1
  have g2 := congrArg UInt8.toNat h2
  have g3 := congrArg UInt8.toNat h3
  have g4 := congrArg UInt8.toNat h4
  simp only [UInt8.toNat_ofNat'] at g1 g2 g3 g4
  omega
theorem four_told (s : List UInt8) (h : 8 ≤ s.length) : (s.drop 4).take 4 = C.four (C.toldC s) := by
  match s, h with
  | a :: b :: c :: d :: e :: f :: g :: i :: r, _ =>
    unfold C.four C.toldC
    simp only [List.drop_succ_cons, List.drop_zero, List.take_succ_cons, List.take_zero, List.getD_cons_succ, List.getD_cons_zero, List.cons.injEq, and_true]
    have he := e.toNat_lt
    have hf := f.toNat_lt
    have hg := g.toNat_lt
    have hi := i.toNat_lt
    refine ⟨?_, ?_, ?_, ?_⟩ <;> apply UInt8.toNat_inj.1 <;> rw [UInt8.toNat_ofNat'] <;> omega
set_option maxRecDepth 100000 in
set_option maxHeartbeats 2000000 in
/-- The reference's Wrap. -/
theorem rwrap_any (l : List UInt8) (hl : l.length ≤ 65536) (w : World) :
    Calls Try.prog 24 #[.string ⟨l.toArray⟩] w fun e w' => e = .returned (.string ⟨(C.wrap l).toArray⟩) ∧ Below w.heap.size w w' := by
  have hz := str_size l
  have hn : (l.length : Int) ≤ 65536 := by omega
  have hzi : ((⟨l.toArray⟩ : ByteArray).size : Int) = (l.length : Int) := by rw [hz]
  have hcut := str_from_ (C.four l.length) 1 1 rfl (by simp [C.four])
  have hadd0 : ∀ w, (Op.stringOp .add ⟨#[94]⟩ ⟨((C.four l.length).drop 1).toArray⟩).run Try.prog w = .ok (.string ⟨(C.head l.length).toArray⟩) w := str_add [94] ((C.four l.length).drop 1) (by simp [C.four])
  generalize (C.four l.length).drop 1 = T at hcut hadd0
  have hadd1 := str_add (C.head l.length) l (by simp [C.head]; omega)
  have hres : C.wrap l = C.head l.length ++ C.four (C.check (C.head l.length ++ l)).toNat ++ l := by unfold C.wrap; rw [List.append_assoc]
  have H1 := Lib.hid (rcheck_any (C.head l.length ++ l) (by simp [C.head]; omega))
  generalize C.check (C.head l.length ++ l) = c at H1 hres
  have hadd2 := str_add (C.head l.length) (C.four c.toNat) (by simp [C.head, C.four])
  have hadd3 := str_add (C.head l.length ++ C.four c.toNat) l (by simp [C.head, C.four]; omega)
  rw [← hres] at hadd3
  have H2 := Lib.hid (rfour_any l.length (by omega))
  have H3 := Lib.hid (rfour_any c.toNat c.isLt)
  clear hz hl hres
  generalize C.wrap l = R at hadd3
  generalize l.length = N at *
  generalize (⟨l.toArray⟩ : ByteArray) = S at *
  have hw : IntKind.u32.wrap (N : Int) = (N : Int) := wrap_u32_inc _ (by omega)
  go_enter Try.func24, Try.ntmps24
  go_wp2_with (first | (go_at_call 68; with_reducible refine (H2.out _).mono ?_; rintro e w1 ⟨rfl, hb1⟩) | (go_at_call 23; with_reducible refine (H1.out _).mono ?_; rintro e w2 ⟨rfl, rfl⟩) | (go_at_call 68; with_reducible refine (H3.out _).mono ?_; rintro e w3 ⟨rfl, hb3⟩))
  go_ret
  exact ⟨rfl, hb1.trans (hb3.mono hb1.size)⟩
/-- Three bytes, as the reference adds them up. -/
structure Sum3 (b1 b2 b3 : Nat) (p1 p2 p3 n : Nat) : Prop where
  w1 : IntKind.i64.wrap (b1 : Int) = b1
  w2 : IntKind.i64.wrap (b2 : Int) = b2
  w3 : IntKind.i64.wrap (b3 : Int) = b3
  m1 : IntKind.i64.wrap ((b1 : Int) * 65536) = p1
  m2 : IntKind.i64.wrap ((b2 : Int) * 256) = p2
  o1 : IntKind.i64.wrap ((p1 : Int) + (p2 : Int)) = p3
  o2 : IntKind.i64.wrap ((p3 : Int) + (b3 : Int)) = n
theorem told_sum (s : List UInt8) : ∃ p1 p2 p3, Sum3 (s.getD 1 0).toNat (s.getD 2 0).toNat (s.getD 3 0).toNat p1 p2 p3 (C.toldN s) := by
  have h1 := (s.getD 1 0).toNat_lt
  have h2 := (s.getD 2 0).toNat_lt
  have h3 := (s.getD 3 0).toNat_lt
  unfold C.toldN
  generalize (s.getD 1 0).toNat = b1 at *
  generalize (s.getD 2 0).toNat = b2 at *
  generalize (s.getD 3 0).toNat = b3 at *
  refine ⟨b1 * 65536, b2 * 256, b1 * 65536 + b2 * 256, ⟨IntWalk.i64_in _ (by omega), IntWalk.i64_in _ (by omega), IntWalk.i64_in _ (by omega), ?_, ?_, ?_, ?_⟩⟩ <;> (rw [IntWalk.i64_in _ (by omega)]; omega)
set_option maxRecDepth 100000 in
set_option maxHeartbeats 2000000 in
theorem ropen_short (s : List UInt8) (h : s.length < 8) (w : World) :
    Calls Try.prog 26 #[.string ⟨s.toArray⟩] w fun e w' => e = .returned (.tuple #[.string ⟨#[]⟩, .int .i64 0, .int .i64 5]) ∧ w = w' := by
  have hz := str_size s
  have d1 : decide (((⟨s.toArray⟩ : ByteArray).size : Int) < 8) = true := by rw [hz]; simp; omega
  have d2 : decide ((⟨s.toArray⟩ : ByteArray).size < 8) = true := by rw [hz]; simp; omega
  clear hz h
  generalize (⟨s.toArray⟩ : ByteArray) = S at *
  go_enter Try.func26, Try.ntmps26
  go_wp2
  go_ret3
  exact ⟨rfl, rfl⟩
set_option maxRecDepth 100000 in
set_option maxHeartbeats 2000000 in
theorem ropen_mark (s : List UInt8) (h : 8 ≤ s.length) (hm : (s.getD 0 0).toNat ≠ 94) (w : World) :
    Calls Try.prog 26 #[.string ⟨s.toArray⟩] w fun e w' => e = .returned (.tuple #[.string ⟨#[]⟩, .int .i64 0, .int .i64 4]) ∧ ∃ n, w' = w.drewN n := by
  have dm0 : (((s.getD 0 0).toNat : Int) == 94) = false := by rw [beq_eq_false_iff_ne]; omega
  have dm20 : (((s.getD 0 0).toNat : Int) != 94) = true := by rw [bne_iff_ne]; omega
  have hz := str_size s
  have d1 : decide (((⟨s.toArray⟩ : ByteArray).size : Int) < 8) = false := by rw [hz]; simp; omega
  have d2 : decide ((⟨s.toArray⟩ : ByteArray).size < 8) = false := by rw [hz]; simp; omega
  have i0 := str_index_ s 0 0 rfl (by omega)
  have i1 := str_index_ s 1 1 rfl (by omega)
  have i2 := str_index_ s 2 2 rfl (by omega)
  have i3 := str_index_ s 3 3 rfl (by omega)
  obtain ⟨p1, p2, p3, h3⟩ := told_sum s
  obtain ⟨w1, w2, w3, m1, m2, o1, o2⟩ := h3
  generalize (s.getD 0 0).toNat = b0 at i0 dm0 dm20
  generalize (s.getD 1 0).toNat = b1 at i1 w1 m1
  generalize (s.getD 2 0).toNat = b2 at i2 w2 m2
  generalize (s.getD 3 0).toNat = b3 at i3 w3 o2
  clear hz hm
  generalize C.toldN s = N at *
  generalize (⟨s.toArray⟩ : ByteArray) = S at *
  go_enter Try.func26, Try.ntmps26
  go_wp2
  go_quiet (fail)
  go_wp2
  go_ret3
  exact ⟨rfl, _, rfl⟩
set_option maxRecDepth 100000 in
set_option maxHeartbeats 2000000 in
theorem ropen_long (s : List UInt8) (h : 8 ≤ s.length) (hm : (s.getD 0 0).toNat = 94) (hn : 65536 < C.toldN s) (w : World) :
    Calls Try.prog 26 #[.string ⟨s.toArray⟩] w fun e w' => e = .returned (.tuple #[.string ⟨#[]⟩, .int .i64 0, .int .i64 4]) ∧ ∃ n, w' = w.drewN n := by
  have dm0 : (((s.getD 0 0).toNat : Int) == 94) = true := by rw [hm]; rfl
  have dm20 : (((s.getD 0 0).toNat : Int) != 94) = false := by rw [hm]; rfl
  have hz := str_size s
  have d1 : decide (((⟨s.toArray⟩ : ByteArray).size : Int) < 8) = false := by rw [hz]; simp; omega
  have d2 : decide ((⟨s.toArray⟩ : ByteArray).size < 8) = false := by rw [hz]; simp; omega
  have i0 := str_index_ s 0 0 rfl (by omega)
  have i1 := str_index_ s 1 1 rfl (by omega)
  have i2 := str_index_ s 2 2 rfl (by omega)
  have i3 := str_index_ s 3 3 rfl (by omega)
  obtain ⟨p1, p2, p3, h3⟩ := told_sum s
  obtain ⟨w1, w2, w3, m1, m2, o1, o2⟩ := h3
  generalize (s.getD 0 0).toNat = b0 at i0 dm0 dm20
  generalize (s.getD 1 0).toNat = b1 at i1 w1 m1
  generalize (s.getD 2 0).toNat = b2 at i2 w2 m2
  generalize (s.getD 3 0).toNat = b3 at i3 w3 o2
  clear hz hm
  generalize C.toldN s = N at *
  generalize (⟨s.toArray⟩ : ByteArray) = S at *
  have dn1 : decide ((65536 : Int) < (N : Int)) = true := by simp; omega
  clear hn
  go_enter Try.func26, Try.ntmps26
  go_wp2
  go_quiet (fail)
  go_wp2
  go_ret3
  exact ⟨rfl, _, rfl⟩
set_option maxRecDepth 100000 in
set_option maxHeartbeats 2000000 in
theorem ropen_end (s : List UInt8) (h : 8 ≤ s.length) (hm : (s.getD 0 0).toNat = 94) (hn : C.toldN s ≤ 65536) (hl : s.length < 8 + C.toldN s) (hs : s.length ≤ 4611686018427387904) (w : World) :
    Calls Try.prog 26 #[.string ⟨s.toArray⟩] w fun e w' => e = .returned (.tuple #[.string ⟨#[]⟩, .int .i64 0, .int .i64 5]) ∧ ∃ n, w' = w.drewN n := by
  have dm0 : (((s.getD 0 0).toNat : Int) == 94) = true := by rw [hm]; rfl
  have dm20 : (((s.getD 0 0).toNat : Int) != 94) = false := by rw [hm]; rfl
  have hz0 := str_size s
  have hz := str_size s
  have d1 : decide (((⟨s.toArray⟩ : ByteArray).size : Int) < 8) = false := by rw [hz]; simp; omega
  have d2 : decide ((⟨s.toArray⟩ : ByteArray).size < 8) = false := by rw [hz]; simp; omega
  have i0 := str_index_ s 0 0 rfl (by omega)
  have i1 := str_index_ s 1 1 rfl (by omega)
  have i2 := str_index_ s 2 2 rfl (by omega)
  have i3 := str_index_ s 3 3 rfl (by omega)
  obtain ⟨p1, p2, p3, h3⟩ := told_sum s
  obtain ⟨w1, w2, w3, m1, m2, o1, o2⟩ := h3
  generalize (s.getD 0 0).toNat = b0 at i0 dm0 dm20
  generalize (s.getD 1 0).toNat = b1 at i1 w1 m1
  generalize (s.getD 2 0).toNat = b2 at i2 w2 m2
  generalize (s.getD 3 0).toNat = b3 at i3 w3 o2
  clear hz hm
  generalize C.toldN s = N at *
  generalize (⟨s.toArray⟩ : ByteArray) = S at *
  have dn1 : decide ((65536 : Int) < (N : Int)) = false := by simp; omega
  have hnb : (N : Int) ≤ 65536 := by omega
  have dl : decide ((S.size : Int) - 8 < (N : Int)) = true := by rw [hz0]; simp; omega
  have hsb : (S.size : Int) ≤ 4611686018427387904 := by omega
  clear hn hl hz0 hs
  go_enter Try.func26, Try.ntmps26
  go_wp2
  go_quiet (fail)
  go_wp2
  go_ret3
  exact ⟨rfl, _, rfl⟩
set_option maxRecDepth 100000 in
set_option maxHeartbeats 2000000 in
theorem ropen_sum (s : List UInt8) (h : 8 ≤ s.length) (hm : (s.getD 0 0).toNat = 94) (hn : C.toldN s ≤ 65536) (hl : 8 + C.toldN s ≤ s.length) (hs : s.length ≤ 4611686018427387904) (hc : ¬ (C.check (s.take 4 ++ (s.drop 8).take (C.toldN s))).toNat = C.toldC s) (w : World) :
    Calls Try.prog 26 #[.string ⟨s.toArray⟩] w fun e w' => e = .returned (.tuple #[.string ⟨#[]⟩, .int .i64 0, .int .i64 6]) ∧ Below w.heap.size w w' := by
  have dm0 : (((s.getD 0 0).toNat : Int) == 94) = true := by rw [hm]; rfl
  have dm20 : (((s.getD 0 0).toNat : Int) != 94) = false := by rw [hm]; rfl
  have hz0 := str_size s
  have hmid := str_mid_ s 8 (8 + C.toldN s) 8 (8 + (C.toldN s : Int)) rfl (by omega) (by omega) hl
  rw [Nat.add_sub_cancel_left] at hmid
  have hmid2 := str_mid_ s 4 8 4 8 rfl rfl (by omega) (by omega)
  rw [show 8 - 4 = 4 from rfl, four_told s h] at hmid2
  have hup := str_upto_ s 4 4 rfl (by omega)
  have hadd := str_add (s.take 4) ((s.drop 8).take (C.toldN s)) (by simp; omega)
  have H1 := Lib.hid (rcheck_any (s.take 4 ++ (s.drop 8).take (C.toldN s)) (by simp; omega))
  have H2 := Lib.hid (rfour_any (C.check (s.take 4 ++ (s.drop 8).take (C.toldN s))).toNat (BitVec.isLt _))
  have hz := str_size s
  have d1 : decide (((⟨s.toArray⟩ : ByteArray).size : Int) < 8) = false := by rw [hz]; simp; omega
  have d2 : decide ((⟨s.toArray⟩ : ByteArray).size < 8) = false := by rw [hz]; simp; omega
  have i0 := str_index_ s 0 0 rfl (by omega)
  have i1 := str_index_ s 1 1 rfl (by omega)
  have i2 := str_index_ s 2 2 rfl (by omega)
  have i3 := str_index_ s 3 3 rfl (by omega)
  obtain ⟨p1, p2, p3, h3⟩ := told_sum s
  obtain ⟨w1, w2, w3, m1, m2, o1, o2⟩ := h3
  generalize (s.getD 0 0).toNat = b0 at i0 dm0 dm20
  generalize (s.getD 1 0).toNat = b1 at i1 w1 m1
  generalize (s.getD 2 0).toNat = b2 at i2 w2 m2
  generalize (s.getD 3 0).toNat = b3 at i3 w3 o2
  clear hz hm
  generalize C.toldN s = N at *
  generalize (⟨s.toArray⟩ : ByteArray) = S at *
  have dn1 : decide ((65536 : Int) < (N : Int)) = false := by simp; omega
  have hnb : (N : Int) ≤ 65536 := by omega
  have dl : decide ((S.size : Int) - 8 < (N : Int)) = false := by rw [hz0]; simp; omega
  have hsb : (S.size : Int) ≤ 4611686018427387904 := by omega
  generalize s.take 4 ++ (s.drop 8).take N = U at *
  have dc : C.four (C.toldC s) ≠ C.four (C.check U).toNat := fun e => hc (four_inj (C.toldC_lt s) (C.check U).isLt e).symm
  have dcs := beq_eq_false_iff_ne.2 dc
  clear hn hl hz0 hs hc dc
  go_enter Try.func26, Try.ntmps26
  go_wp2
  go_quiet (fail)
  go_wp2
  refine wp_region_quiet_below (by kernel_rfl) (by kernel_rfl) ?_
  repeat (first  | go_big_quiet_step (first | with_reducible exact calls_regrown _ (fun W _ => (H1.out W).mono fun e w' h => ⟨h.1, h.2 ▸ Below.refl _ _⟩) | with_reducible exact calls_regrown _ (fun W _ => H2.out W) | fail))
  refine wpQuiet_nil ?_
  intro w1 hw1
  have hb1 := below_of_regrown hw1
  clear hw1
  go_wp2
  go_ret3
  exact ⟨rfl, (below_refl_drewN _ _).trans hb1⟩
set_option maxRecDepth 100000 in
set_option maxHeartbeats 2000000 in
theorem ropen_ok (s : List UInt8) (h : 8 ≤ s.length) (hm : (s.getD 0 0).toNat = 94) (hn : C.toldN s ≤ 65536) (hl : 8 + C.toldN s ≤ s.length) (hs : s.length ≤ 4611686018427387904) (hc : (C.check (s.take 4 ++ (s.drop 8).take (C.toldN s))).toNat = C.toldC s) (w : World) :
    Calls Try.prog 26 #[.string ⟨s.toArray⟩] w fun e w' => e = .returned (.tuple #[.string ⟨((s.drop 8).take (C.toldN s)).toArray⟩, .int .i64 ((8 + C.toldN s : Nat) : Int), .int .i64 0]) ∧ Below w.heap.size w w' := by
  have dm0 : (((s.getD 0 0).toNat : Int) == 94) = true := by rw [hm]; rfl
  have dm20 : (((s.getD 0 0).toNat : Int) != 94) = false := by rw [hm]; rfl
  have hz0 := str_size s
  have hmid := str_mid_ s 8 (8 + C.toldN s) 8 (8 + (C.toldN s : Int)) rfl (by omega) (by omega) hl
  rw [Nat.add_sub_cancel_left] at hmid
  have hmid2 := str_mid_ s 4 8 4 8 rfl rfl (by omega) (by omega)
  rw [show 8 - 4 = 4 from rfl, four_told s h] at hmid2
  have hup := str_upto_ s 4 4 rfl (by omega)
  have hadd := str_add (s.take 4) ((s.drop 8).take (C.toldN s)) (by simp; omega)
  have H1 := Lib.hid (rcheck_any (s.take 4 ++ (s.drop 8).take (C.toldN s)) (by simp; omega))
  have H2 := Lib.hid (rfour_any (C.check (s.take 4 ++ (s.drop 8).take (C.toldN s))).toNat (BitVec.isLt _))
  have hz := str_size s
  have d1 : decide (((⟨s.toArray⟩ : ByteArray).size : Int) < 8) = false := by rw [hz]; simp; omega
  have d2 : decide ((⟨s.toArray⟩ : ByteArray).size < 8) = false := by rw [hz]; simp; omega
  have i0 := str_index_ s 0 0 rfl (by omega)
  have i1 := str_index_ s 1 1 rfl (by omega)
  have i2 := str_index_ s 2 2 rfl (by omega)
  have i3 := str_index_ s 3 3 rfl (by omega)
  obtain ⟨p1, p2, p3, h3⟩ := told_sum s
  obtain ⟨w1, w2, w3, m1, m2, o1, o2⟩ := h3
  generalize (s.getD 0 0).toNat = b0 at i0 dm0 dm20
  generalize (s.getD 1 0).toNat = b1 at i1 w1 m1
  generalize (s.getD 2 0).toNat = b2 at i2 w2 m2
  generalize (s.getD 3 0).toNat = b3 at i3 w3 o2
  clear hz hm
  generalize C.toldN s = N at *
  generalize (⟨s.toArray⟩ : ByteArray) = S at *
  have dn1 : decide ((65536 : Int) < (N : Int)) = false := by simp; omega
  have hnb : (N : Int) ≤ 65536 := by omega
  have dl : decide ((S.size : Int) - 8 < (N : Int)) = false := by rw [hz0]; simp; omega
  have hsb : (S.size : Int) ≤ 4611686018427387904 := by omega
  generalize s.take 4 ++ (s.drop 8).take N = U at *
  have dcs : (C.four (C.toldC s) == C.four (C.check U).toNat) = true := by rw [hc]; exact beq_self_eq_true _
  clear hn hl hz0 hs hc
  go_enter Try.func26, Try.ntmps26
  go_wp2
  go_quiet (fail)
  go_wp2
  refine wp_region_quiet_below (by kernel_rfl) (by kernel_rfl) ?_
  repeat (first  | go_big_quiet_step (first | with_reducible exact calls_regrown _ (fun W _ => (H1.out W).mono fun e w' h => ⟨h.1, h.2 ▸ Below.refl _ _⟩) | with_reducible exact calls_regrown _ (fun W _ => H2.out W) | fail))
  refine wpQuiet_nil ?_
  intro w1 hw1
  have hb1 := below_of_regrown hw1
  clear hw1
  go_wp2
  go_ret3
  exact ⟨rfl, (below_refl_drewN _ _).trans hb1⟩
/-- The reference's Open. -/
theorem ropenF_any (s : List UInt8) (hs : s.length ≤ 4611686018427387904) (w : World) :
    Calls Try.prog 26 #[.string ⟨s.toArray⟩] w fun e w' => e = .returned (.tuple #[.string ⟨(C.opn s).1.toArray⟩, .int .i64 ((C.opn s).2.1 : Int), .int .i64 ((C.opn s).2.2 : Int)]) ∧ Below w.heap.size w w' := by
  by_cases h : s.length < 8
  · have e : C.opn s = ([], 0, 5) := by unfold C.opn; rw [if_pos h]
    rw [e]
    exact (ropen_short s h w).mono fun _ _ ⟨h1, h2⟩ => ⟨h1, h2 ▸ Below.refl _ _⟩
  · by_cases hm : (s.getD 0 0).toNat = 94
    · by_cases hn : 65536 < C.toldN s
      · have e : C.opn s = ([], 0, 4) := by unfold C.opn; rw [if_neg h, if_neg (by simpa using hm), if_pos hn]
        rw [e]
        exact (ropen_long s (by omega) hm hn w).mono fun _ _ ⟨h1, n, h2⟩ => ⟨h1, h2 ▸ below_refl_drewN _ _⟩
      · by_cases hl : s.length < 8 + C.toldN s
        · have e : C.opn s = ([], 0, 5) := by unfold C.opn; rw [if_neg h, if_neg (by simpa using hm), if_neg hn, if_pos hl]
          rw [e]
          exact (ropen_end s (by omega) hm (by omega) hl hs w).mono fun _ _ ⟨h1, n, h2⟩ => ⟨h1, h2 ▸ below_refl_drewN _ _⟩
        · by_cases hc : (C.check (s.take 4 ++ (s.drop 8).take (C.toldN s))).toNat = C.toldC s
          · have e : C.opn s = ((s.drop 8).take (C.toldN s), 8 + C.toldN s, 0) := by unfold C.opn; rw [if_neg h, if_neg (by simpa using hm), if_neg hn, if_neg hl, if_pos hc]
            rw [e]
            exact ropen_ok s (by omega) hm (by omega) (by omega) hs hc w
          · have e : C.opn s = ([], 0, 6) := by unfold C.opn; rw [if_neg h, if_neg (by simpa using hm), if_neg hn, if_neg hl, if_neg hc]
            rw [e]
            exact ropen_sum s (by omega) hm (by omega) (by omega) hs hc w
    · have e : C.opn s = ([], 0, 4) := by unfold C.opn; rw [if_neg h, if_pos (by simpa using hm)]
      rw [e]
      exact (ropen_mark s (by omega) hm w).mono fun _ _ ⟨h1, n, h2⟩ => ⟨h1, h2 ▸ below_refl_drewN _ _⟩
end Go.Proofs.Ytknkbioalohofaa

/- The walk of journal.Journal's Add. -/
import Derived.Test.YtknkbioalohofaaJrC
import Derived.Test.YtknkbioalohofaaRel
namespace Go.Proofs.Ytknkbioalohofaa
open Go.RowKit

namespace Jr
/-- A text more. -/
def add (M : D.Dk) (n : Nat) (s : List UInt8) : D.Dk × Nat :=
  if (D.append M (name n) (C.wrap s)).2 = 0 then D.sync (D.append M (name n) (C.wrap s)).1 (name n) else D.append M (name n) (C.wrap s)
end Jr
theorem JrAt.at_ {w w' : World} {j p n : Nat} (h : JrAt w j p n) (hb : Below w.heap.size w w') : JrAt w' j p n := Blk.at_ h hb
set_option maxRecDepth 100000 in
set_option maxHeartbeats 4000000 in
theorem add_any {B : Nat} {w : World} {p j n : Nat} {M : D.Dk} (h : DkAt B w p M) (hj : JrAt w j p n) (hn : n < 10000000000) (s : List UInt8) (hs : s.length ≤ 65536) (hu : D.used M.files + (s.length + 8) ≤ 1099511627776) :
    Calls Try.prog 57 #[.pointer (some ⟨j, 0, none⟩), .string ⟨s.toArray⟩] w fun e w' => e = .returned (.int .i64 ((Jr.add M n s).2 : Int)) ∧ DkAt B w' p (Jr.add M n s).1 ∧ DStp B w w' := by
  have WR := Lib.hid (fun W => wrap_any s hs W)
  have NM := Lib.hid (fun W => name_any n hn W)
  have hl1 := Jr.name_length n
  have hl2 : (C.wrap s).length = s.length + 8 := C.wrap_length s
  have hBw := Nat.le_of_lt h.lt
  by_cases he : (D.append M (Jr.name n) (C.wrap s)).2 = 0
  · have hadd : Jr.add M n s = D.sync (D.append M (Jr.name n) (C.wrap s)).1 (Jr.name n) := by unfold Jr.add; rw [if_pos he]
    rw [hadd]
    have AP := Lib.hid (fun W (h : DkAt B W p M) => append_to (z := 0) h (Jr.name n) (C.wrap s) (by omega) (by omega) (by omega) rfl (by rw [he]; rfl))
    clear he hadd
    generalize (D.append M (Jr.name n) (C.wrap s)).1 = M1 at *
    have SY := Lib.hid (fun W (h : DkAt B W p M1) => sync_any h (Jr.name n) (by omega))
    generalize D.sync M1 (Jr.name n) = M2 at *
    obtain ⟨M2, e2⟩ := M2
    dsimp only at SY ⊢
    clear hl1 hl2 hu hs hn
    generalize Jr.name n = nm at *
    generalize C.wrap s = fr at *
    go_enter Try.func57, Try.ntmps57
    go_wp2_with (go_at_call 20; (with_reducible refine (WR.out _).mono ?_); rintro e w1 ⟨rfl, hb1⟩)
    have hj1 := hj.at_ hb1
    have hj1d : Blk w1.drew j #[.pointer (some ⟨p, 0, none⟩), .int .i64 (n : Int)] 144 := Blk.drew hj1
    have k1 := h.at_ hb1
    have S1 := DStp.of hb1 hBw
    clear h WR
    apply wp_region_rel_below_tail 10 [[(0, none)], [(16, some 0)], [(17, some 1)], [(18, some 2)], [(0, none)], [(20, some 4)], [(21, some 5)], [(22, some 6)], [(23, some 7)], [(5, none)]] [eqv _, eqv _, eqv _, eqv _, eqv _, eqv _, eqv _, eqv _, eqv _, eqv _] (by kernel_rfl) (by kernel_rfl)
    case hobs =>
      refine ⟨?_, ?_⟩
      · rintro L a1 w1 hT - - ⟨h0, -⟩   -- 0: Op.move t0
        have e0 : a1.tmps.getD 0 undef = _ := h0
        have f0 := getD_form e0
        clear h0
        go_simp; exact left_intro rfl (Stp.refl _) trivial
      refine ⟨?_, ?_⟩
      · rintro L a1 w1 hT - - ⟨h16, -⟩   -- 1: Op.nilCheck t16
        have e16 : a1.tmps.getD 16 undef = _ := h16
        have f16 := getD_form e16
        clear h16
        go_simp; exact left_intro rfl (Stp.refl _) trivial
      refine ⟨?_, ?_⟩
      · rintro L a1 w1 hT - - ⟨h17, -⟩   -- 2: Op.fieldAddr 144 t17 0
        have e17 : a1.tmps.getD 17 undef = _ := h17
        have f17 := getD_form e17
        clear h17
        go_simp; exact left_intro rfl (Stp.refl _) trivial
      refine ⟨?_, ?_⟩
      · rintro L a1 w1 hT - - ⟨h18, -⟩   -- 3: Op.load 58 t18
        have e18 : a1.tmps.getD 18 undef = _ := h18
        have f18 := getD_form e18
        clear h18
        have c0 := (hj1d.at_ hT).cellv (i := 0) rfl
        go_simp; exact left_intro rfl (Stp.refl _) trivial
      refine ⟨?_, ?_⟩
      · rintro L a1 w1 hT - - ⟨h0, -⟩   -- 4: Op.move t0
        have e0 : a1.tmps.getD 0 undef = _ := h0
        have f0 := getD_form e0
        clear h0
        go_simp; exact left_intro rfl (Stp.refl _) trivial
      refine ⟨?_, ?_⟩
      · rintro L a1 w1 hT - - ⟨h20, -⟩   -- 5: Op.nilCheck t20
        have e20 : a1.tmps.getD 20 undef = _ := h20
        have f20 := getD_form e20
        clear h20
        go_simp; exact left_intro rfl (Stp.refl _) trivial
      refine ⟨?_, ?_⟩
      · rintro L a1 w1 hT - - ⟨h21, -⟩   -- 6: Op.fieldAddr 144 t21 1
        have e21 : a1.tmps.getD 21 undef = _ := h21
        have f21 := getD_form e21
        clear h21
        go_simp; exact left_intro rfl (Stp.refl _) trivial
      refine ⟨?_, ?_⟩
      · rintro L a1 w1 hT - - ⟨h22, -⟩   -- 7: Op.load 3 t22
        have e22 : a1.tmps.getD 22 undef = _ := h22
        have f22 := getD_form e22
        clear h22
        have c1 := (hj1d.at_ hT).cellv (i := 1) rfl
        go_simp; exact left_intro rfl (Stp.refl _) trivial
      refine ⟨?_, ?_⟩
      · rintro L a1 w1 hT - - ⟨h23, -⟩   -- 8: Op.call { value (Operand.func 61), args := #[t23], argTypes := #[3] }
        have e23 : a1.tmps.getD 23 undef = _ := h23
        have f23 := getD_form e23
        clear h23
        go_simp; go_at_call 61; (with_reducible refine (NM.out _).mono ?_); rintro e w2 ⟨rfl, hb⟩; exact left_intro rfl (Stp.of hb) trivial
      refine ⟨?_, ?_⟩
      · rintro L a1 w1 hT - - ⟨h5, -⟩   -- 9: Op.move t5
        have e5 : a1.tmps.getD 5 undef = _ := h5
        have f5 := getD_form e5
        clear h5
        go_simp; exact left_intro rfl (Stp.refl _) trivial
      trivial
    case hmono => repeat (first | exact trivial | refine ⟨fun _ _ _ _ h => h, ?_⟩)
    case hend =>
      intro w2 hT
      rintro _ rfl _ rfl _ rfl _ rfl _ rfl _ rfl _ rfl _ rfl _ rfl _ rfl
      change wpList _ _ _ _ _ _
      simp only [Act.put, List.setIfInBounds_toArray, List.set_cons_succ, List.set_cons_zero, List.drop_succ_cons, List.drop_zero]
      have k2 := k1.at_ hT
      have S2 := S1.trans (DStp.of hT (Nat.le_of_lt k1.lt))
      have hj2 := hj1.at_ hT
      go_wp2_with (go_at_call 38; (with_reducible refine (AP.out _ k2).mono ?_); rintro e w3 ⟨rfl, k3, s3⟩)
      have hj3 : JrAt w3 j p n := hj2.dstp s3 (by decide) (by decide)
      have hj3d : Blk w3.drew j #[.pointer (some ⟨p, 0, none⟩), .int .i64 (n : Int)] 144 := Blk.drew hj3
      have S3 := S2.trans s3
      apply wp_region_rel_below_tail 9 [[(0, none)], [(30, some 0)], [(31, some 1)], [(32, some 2)], [(0, none)], [(34, some 4)], [(35, some 5)], [(36, some 6)], [(37, some 7)]] [eqv _, eqv _, eqv _, eqv _, eqv _, eqv _, eqv _, eqv _, eqv _] (by kernel_rfl) (by kernel_rfl)
      case hobs =>
        refine ⟨?_, ?_⟩
        · rintro L a1 w1 hT - - ⟨h0, -⟩   -- 0: Op.move t0
          have e0 : a1.tmps.getD 0 undef = _ := h0
          have f0 := getD_form e0
          clear h0
          go_simp; exact left_intro rfl (Stp.refl _) trivial
        refine ⟨?_, ?_⟩
        · rintro L a1 w1 hT - - ⟨h30, -⟩   -- 1: Op.nilCheck t30
          have e30 : a1.tmps.getD 30 undef = _ := h30
          have f30 := getD_form e30
          clear h30
          go_simp; exact left_intro rfl (Stp.refl _) trivial
        refine ⟨?_, ?_⟩
        · rintro L a1 w1 hT - - ⟨h31, -⟩   -- 2: Op.fieldAddr 144 t31 0
          have e31 : a1.tmps.getD 31 undef = _ := h31
          have f31 := getD_form e31
          clear h31
          go_simp; exact left_intro rfl (Stp.refl _) trivial
        refine ⟨?_, ?_⟩
        · rintro L a1 w1 hT - - ⟨h32, -⟩   -- 3: Op.load 58 t32
          have e32 : a1.tmps.getD 32 undef = _ := h32
          have f32 := getD_form e32
          clear h32
          have c0 := (hj3d.at_ hT).cellv (i := 0) rfl
          go_simp; exact left_intro rfl (Stp.refl _) trivial
        refine ⟨?_, ?_⟩
        · rintro L a1 w1 hT - - ⟨h0, -⟩   -- 4: Op.move t0
          have e0 : a1.tmps.getD 0 undef = _ := h0
          have f0 := getD_form e0
          clear h0
          go_simp; exact left_intro rfl (Stp.refl _) trivial
        refine ⟨?_, ?_⟩
        · rintro L a1 w1 hT - - ⟨h34, -⟩   -- 5: Op.nilCheck t34
          have e34 : a1.tmps.getD 34 undef = _ := h34
          have f34 := getD_form e34
          clear h34
          go_simp; exact left_intro rfl (Stp.refl _) trivial
        refine ⟨?_, ?_⟩
        · rintro L a1 w1 hT - - ⟨h35, -⟩   -- 6: Op.fieldAddr 144 t35 1
          have e35 : a1.tmps.getD 35 undef = _ := h35
          have f35 := getD_form e35
          clear h35
          go_simp; exact left_intro rfl (Stp.refl _) trivial
        refine ⟨?_, ?_⟩
        · rintro L a1 w1 hT - - ⟨h36, -⟩   -- 7: Op.load 3 t36
          have e36 : a1.tmps.getD 36 undef = _ := h36
          have f36 := getD_form e36
          clear h36
          have c1 := (hj3d.at_ hT).cellv (i := 1) rfl
          go_simp; exact left_intro rfl (Stp.refl _) trivial
        refine ⟨?_, ?_⟩
        · rintro L a1 w1 hT - - ⟨h37, -⟩   -- 8: Op.call { value (Operand.func 61), args := #[t37], argTypes := #[3] }
          have e37 : a1.tmps.getD 37 undef = _ := h37
          have f37 := getD_form e37
          clear h37
          go_simp; go_at_call 61; (with_reducible refine (NM.out _).mono ?_); rintro e w2 ⟨rfl, hb⟩; exact left_intro rfl (Stp.of hb) trivial
        trivial
      case hmono => repeat (first | exact trivial | refine ⟨fun _ _ _ _ h => h, ?_⟩)
      case hend =>
        intro w2 hT
        rintro _ rfl _ rfl _ rfl _ rfl _ rfl _ rfl _ rfl _ rfl _ rfl
        change wpList _ _ _ _ _ _
        simp only [Act.put, List.setIfInBounds_toArray, List.set_cons_succ, List.set_cons_zero, List.drop_succ_cons, List.drop_zero]
        have k4 := k3.at_ hT
        have S4 := S3.trans (DStp.of hT (Nat.le_of_lt k3.lt))
        go_wp2_with (go_at_call 39; (with_reducible refine (SY.out _ k4).mono ?_); rintro e w5 ⟨rfl, k5, s5⟩)
        go_ret
        exact ⟨rfl, k5, S4.trans s5⟩
  · have hadd : Jr.add M n s = D.append M (Jr.name n) (C.wrap s) := by unfold Jr.add; rw [if_neg he]
    rw [hadd]
    have AP := Lib.hid (fun W (h : DkAt B W p M) => append_any h (Jr.name n) (C.wrap s) (by omega) (by omega) (by omega))
    have d1 : (((D.append M (Jr.name n) (C.wrap s)).2 : Int) != 0) = true := by rw [bne_iff_ne]; omega
    clear he hadd
    generalize D.append M (Jr.name n) (C.wrap s) = M1 at *
    obtain ⟨M1, e1⟩ := M1
    dsimp only at AP d1 ⊢
    clear hl1 hl2 hu hs hn
    generalize Jr.name n = nm at *
    generalize C.wrap s = fr at *
    go_enter Try.func57, Try.ntmps57
    go_wp2_with (go_at_call 20; (with_reducible refine (WR.out _).mono ?_); rintro e w1 ⟨rfl, hb1⟩)
    have hj1 := hj.at_ hb1
    have hj1d : Blk w1.drew j #[.pointer (some ⟨p, 0, none⟩), .int .i64 (n : Int)] 144 := Blk.drew hj1
    have k1 := h.at_ hb1
    have S1 := DStp.of hb1 hBw
    clear h WR
    apply wp_region_rel_below_tail 10 [[(0, none)], [(16, some 0)], [(17, some 1)], [(18, some 2)], [(0, none)], [(20, some 4)], [(21, some 5)], [(22, some 6)], [(23, some 7)], [(5, none)]] [eqv _, eqv _, eqv _, eqv _, eqv _, eqv _, eqv _, eqv _, eqv _, eqv _] (by kernel_rfl) (by kernel_rfl)
    case hobs =>
      refine ⟨?_, ?_⟩
      · rintro L a1 w1 hT - - ⟨h0, -⟩   -- 0: Op.move t0
        have e0 : a1.tmps.getD 0 undef = _ := h0
        have f0 := getD_form e0
        clear h0
        go_simp; exact left_intro rfl (Stp.refl _) trivial
      refine ⟨?_, ?_⟩
      · rintro L a1 w1 hT - - ⟨h16, -⟩   -- 1: Op.nilCheck t16
        have e16 : a1.tmps.getD 16 undef = _ := h16
        have f16 := getD_form e16
        clear h16
        go_simp; exact left_intro rfl (Stp.refl _) trivial
      refine ⟨?_, ?_⟩
      · rintro L a1 w1 hT - - ⟨h17, -⟩   -- 2: Op.fieldAddr 144 t17 0
        have e17 : a1.tmps.getD 17 undef = _ := h17
        have f17 := getD_form e17
        clear h17
        go_simp; exact left_intro rfl (Stp.refl _) trivial
      refine ⟨?_, ?_⟩
      · rintro L a1 w1 hT - - ⟨h18, -⟩   -- 3: Op.load 58 t18
        have e18 : a1.tmps.getD 18 undef = _ := h18
        have f18 := getD_form e18
        clear h18
        have c0 := (hj1d.at_ hT).cellv (i := 0) rfl
        go_simp; exact left_intro rfl (Stp.refl _) trivial
      refine ⟨?_, ?_⟩
      · rintro L a1 w1 hT - - ⟨h0, -⟩   -- 4: Op.move t0
        have e0 : a1.tmps.getD 0 undef = _ := h0
        have f0 := getD_form e0
        clear h0
        go_simp; exact left_intro rfl (Stp.refl _) trivial
      refine ⟨?_, ?_⟩
      · rintro L a1 w1 hT - - ⟨h20, -⟩   -- 5: Op.nilCheck t20
        have e20 : a1.tmps.getD 20 undef = _ := h20
        have f20 := getD_form e20
        clear h20
        go_simp; exact left_intro rfl (Stp.refl _) trivial
      refine ⟨?_, ?_⟩
      · rintro L a1 w1 hT - - ⟨h21, -⟩   -- 6: Op.fieldAddr 144 t21 1
        have e21 : a1.tmps.getD 21 undef = _ := h21
        have f21 := getD_form e21
        clear h21
        go_simp; exact left_intro rfl (Stp.refl _) trivial
      refine ⟨?_, ?_⟩
      · rintro L a1 w1 hT - - ⟨h22, -⟩   -- 7: Op.load 3 t22
        have e22 : a1.tmps.getD 22 undef = _ := h22
        have f22 := getD_form e22
        clear h22
        have c1 := (hj1d.at_ hT).cellv (i := 1) rfl
        go_simp; exact left_intro rfl (Stp.refl _) trivial
      refine ⟨?_, ?_⟩
      · rintro L a1 w1 hT - - ⟨h23, -⟩   -- 8: Op.call { value (Operand.func 61), args := #[t23], argTypes := #[3] }
        have e23 : a1.tmps.getD 23 undef = _ := h23
        have f23 := getD_form e23
        clear h23
        go_simp; go_at_call 61; (with_reducible refine (NM.out _).mono ?_); rintro e w2 ⟨rfl, hb⟩; exact left_intro rfl (Stp.of hb) trivial
      refine ⟨?_, ?_⟩
      · rintro L a1 w1 hT - - ⟨h5, -⟩   -- 9: Op.move t5
        have e5 : a1.tmps.getD 5 undef = _ := h5
        have f5 := getD_form e5
        clear h5
        go_simp; exact left_intro rfl (Stp.refl _) trivial
      trivial
    case hmono => repeat (first | exact trivial | refine ⟨fun _ _ _ _ h => h, ?_⟩)
    case hend =>
      intro w2 hT
      rintro _ rfl _ rfl _ rfl _ rfl _ rfl _ rfl _ rfl _ rfl _ rfl _ rfl
      change wpList _ _ _ _ _ _
      simp only [Act.put, List.setIfInBounds_toArray, List.set_cons_succ, List.set_cons_zero, List.drop_succ_cons, List.drop_zero]
      have k2 := k1.at_ hT
      have S2 := S1.trans (DStp.of hT (Nat.le_of_lt k1.lt))
      go_wp2_with (go_at_call 38; (with_reducible refine (AP.out _ k2).mono ?_); rintro e w3 ⟨rfl, k3, s3⟩)
      go_ret
      exact ⟨rfl, k3, S2.trans s3⟩
end Go.Proofs.Ytknkbioalohofaa

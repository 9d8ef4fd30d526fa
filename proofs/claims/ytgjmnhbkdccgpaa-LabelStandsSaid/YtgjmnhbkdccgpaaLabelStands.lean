/- LabelStands: what stands for seeds and values. No condition. -/
import Derived.Test.YtgjmnhbkdccgpaaWLAwake
import Derived.Test.YtgjmnhbkdccgpaaWRB14
import Derived.Test.YtgjmnhbkdccgpaaOpenL
namespace Go.Proofs.Ytgjmnhbkdccgpaa
open Go.ChangeShapes Go.WideShapes Go.ChangeAt Go.RowKit

set_option maxRecDepth 100000 in
set_option maxHeartbeats 2000000 in
theorem stands_walk (key0 : List UInt8) (s z : List UInt8) (v0 : List UInt8) (hs : s.length = 32) (hz : z.length = 32) (w : World) :
    Calls Try.prog 12 #[.string ⟨key0.toArray⟩, .agg (labA s), .agg (labA z), .string ⟨v0.toArray⟩] w fun e w' => e = .returned (.bool true) ∧ Below w.heap.size w w' := by
  have h0 := lcut_any key0 100
  have h00 := lcut_any v0 100
  rw [show ((100 : Nat) : Int) = 100 from rfl] at h0 h00
  have hk : (key0.take 100).length ≤ 100 := by rw [List.length_take]; omega
  have hv : (v0.take 100).length ≤ 100 := by rw [List.length_take]; omega
  generalize key0.take 100 = key at h0 hk
  generalize v0.take 100 = v at h00 hv
  have H0 := Lib.hid h0
  have H00 := Lib.hid h00
  clear h0 h00
  have F2 := Lib.hid (fun W => fresh_any s hs W)
  have F3 := Lib.hid (fun W => stale_any s hs W)
  have RB2 := Lib.hid (fun v1 W (h : Labs W v1 [s]) => r14bytes_lit 2 2 rfl [s] [] v1 (.slice none 0 0) W h (.inl ⟨rfl, rfl⟩) (by rw [List.append_nil, joinB1_len]; omega))
  have RB3 := Lib.hid (fun v1 W (h : Labs W v1 [s]) => r14bytes_lit 3 3 rfl [s] [] v1 (.slice none 0 0) W h (.inl ⟨rfl, rfl⟩) (by rw [List.append_nil, joinB1_len]; omega))
  have RB4 := Lib.hid (fun v1 v2 W (h : Labs W v1 [z]) (h2 : Strs W v2 [v]) => r14bytes_lit 4 4 rfl [z] [v] v1 v2 W h h2 (by rw [List.singleton_append, joinB2_len]; omega))
  rw [List.append_nil] at RB2 RB3
  rw [List.singleton_append] at RB4
  have S2 := Lib.hid (fun W => sum_any (J.joinB 2 [s]) W (by rw [joinB1_len]; omega))
  have S3 := Lib.hid (fun W => sum_any (J.joinB 3 [s]) W (by rw [joinB1_len]; omega))
  have S4 := Lib.hid (fun W => sum_any (J.joinB 4 [z, v]) W (by rw [joinB2_len]; omega))
  rw [show S.sum (J.joinB 2 [s]) = L.fresh s from rfl] at S2
  rw [show S.sum (J.joinB 3 [s]) = L.stale s from rfl] at S3
  rw [show S.sum (J.joinB 4 [z, v]) = L.commit v z from rfl] at S4
  have NN := Lib.hid (fun W => nonce_any key s (by omega) hs W)
  have MM := Lib.hid (fun W => mac_any key (L.nonceT ++ s) W (by omega) (by simp [L.nonceT]; omega))
  rw [show S.mac key (L.nonceT ++ s) = L.nonce key s from rfl] at MM
  have CC := Lib.hid (fun W => commit_any v z (by omega) hz W)
  have T5 := Lib.hid (fun W => tomb_any W)
  have T6 := Lib.hid (fun W => mark_any W)
  have S5 := Lib.hid (fun W => sum_any [5] W (by decide))
  have S6 := Lib.hid (fun W => sum_any [6] W (by decide))
  have sa := str_add L.nonceT s (by simp [L.nonceT]; omega)
  rw [show (⟨L.nonceT.toArray⟩ : ByteArray) = ⟨#[110, 111, 110, 99, 101]⟩ from rfl] at sa
  have l2 : (L.fresh s).length = 32 := S.sum_length _
  have l3 : (L.stale s).length = 32 := S.sum_length _
  have l4 : (L.commit v z).length = 32 := S.sum_length _
  have l5 : (S.sum [5]).length = 32 := S.sum_length _
  have l6 : (S.sum [6]).length = 32 := S.sum_length _
  have ln : (L.nonce key s).length = 32 := S.mac_length _ _
  have hcv := Lib.hid (fun (W : World) (g : Nat) (b : Blk W g (labA s) 25) => lab_conv hs b)
  generalize (⟨(J.joinB 2 [s]).toArray⟩ : ByteArray) = J2 at *
  generalize (⟨(J.joinB 3 [s]).toArray⟩ : ByteArray) = J3 at *
  generalize (⟨(J.joinB 4 [z, v]).toArray⟩ : ByteArray) = J4 at *
  generalize (⟨(L.nonceT ++ s).toArray⟩ : ByteArray) = NT at *
  generalize (⟨s.toArray⟩ : ByteArray) = SS at *
  generalize L.fresh s = f2 at *
  generalize L.stale s = f3 at *
  generalize L.commit v z = f4 at *
  generalize S.sum [5] = f5 at *
  generalize S.sum [6] = f6 at *
  generalize L.nonce key s = fn at *
  have q2 := beq_self_eq_true f2
  have q3 := beq_self_eq_true f3
  have q4 := beq_self_eq_true f4
  have q5 := beq_self_eq_true f5
  have q6 := beq_self_eq_true f6
  have qn := beq_self_eq_true fn
  have b0 : Blk (w.alloc (.cells (labA s) 25)) w.heap.size (labA s) 25 := Blk.new _ _ _
  have b1 : Blk ((w.alloc (.cells (labA s) 25)).alloc (.cells (labA z) 25)) (w.heap.size + 1) (labA z) 25 := blk_new1 _ _ _ _
  have b0 := b0.alloc (.cells (labA z) 25)
  have hB := (below_alloc1 w (.cells (labA s) 25)).alloc (o := .cells (labA z) 25) (by simp)
  go_enter Try.func12, Try.ntmps12
  go_wp2_with (first | (go_at_call 18; with_reducible refine (H0.out _).mono ?_; rintro e w0 ⟨rfl, rfl⟩) | (go_at_call 18; with_reducible refine (H00.out _).mono ?_; rintro e w0 ⟨rfl, rfl⟩))
  have B0 := b0.drew
  have B1 := b1.drew
  clear b0 b1
  generalize hw9 : (w.alloc (.cells (labA s) 25)).alloc (.cells (labA z) 25) = w9 at *
  clear hw9
  apply wp_region_rel_below [[(5, none)], [(13, some 0)], [(5, none)], [(15, some 2)], [(16, some 3)], [(17, some 4)], [(14, some 1), (18, some 5)], [(19, some 6)], [(5, none), (20, some 7)], [(21, some 8), (20, some 7)], [(5, none), (20, some 7)], [(23, some 10), (20, some 7)], [(24, some 11), (20, some 7)], [(25, some 12), (20, some 7)], [(22, some 9), (26, some 13), (20, some 7)], [(20, some 7), (27, some 14)]] [eqv _, eqv _, eqv _, blkRow 1 1 (labA s) 25, eqv _, eqv _, eqv _, eqv _, eqv _, eqv _, eqv _, blkRow 1 1 (labA s) 25, eqv _, eqv _, eqv _, eqv _] (by kernel_rfl) (by kernel_rfl)
  case hobs =>
    refine ⟨?_, ?_⟩
    · rintro L a1 w1 hT - - ⟨h5, -⟩   -- 0: Op.load 25 t5
      have e5 : a1.tmps.getD 5 undef = _ := h5
      have f5 := getD_form e5
      clear h5
      exact wp_load_lab (.tmp 5) rfl e5 (B0.at_ hT) hs (left_intro rfl (Stp.refl _) trivial)
    refine ⟨?_, ?_⟩
    · rintro L a1 w1 hT - - ⟨h13, -⟩   -- 1: Op.call { value (Operand.func 38), args := #[t13], argTypes := #[25] }
      have e13 : a1.tmps.getD 13 undef = _ := h13
      have f13 := getD_form e13
      clear h13
      go_simp; go_at_call 38; (with_reducible refine (F2.out _).mono ?_); rintro e w2 ⟨rfl, hb⟩; exact left_intro rfl (Stp.of hb) trivial
    refine ⟨?_, ?_⟩
    · rintro L a1 w1 hT - - ⟨h5, -⟩   -- 2: Op.load 25 t5
      have e5 : a1.tmps.getD 5 undef = _ := h5
      have f5 := getD_form e5
      clear h5
      exact wp_load_lab (.tmp 5) rfl e5 (B0.at_ hT) hs (left_intro rfl (Stp.refl _) trivial)
    refine ⟨?_, ?_⟩
    · rintro L a1 w1 hT - - ⟨h15, -⟩   -- 3: Op.buildSlice 54 1 #[(0, t15)]
      have e15 : a1.tmps.getD 15 undef = _ := h15
      have f15 := getD_form e15
      clear h15
      exact wp_build_lab 15 rfl e15 (by assumption) (left_intro (T := Stp) (Ph := fun _ _ _ => True) (blkRow_new _ _ _ _ _) (Stp.alloc _ _) trivial)
    refine ⟨?_, ?_⟩
    · rintro L a1 w1 hT - - ⟨h16, -⟩   -- 4: Op.call { value (Operand.func 35), args := #[const (2:u8), t16, const (Value.slice none 0 
      obtain ⟨b16, e16, B16⟩ : (blkRow 1 1 (labA s) 25) (a1.tmps.getD 16 undef) w1 := h16
      have f16 := getD_form e16
      go_simp; go_at_call 35; (with_reducible refine (RB2.out _ _ (Labs.one hs B16)).mono ?_); rintro e w2 ⟨rfl, hb⟩; exact left_intro rfl (Stp.of hb) trivial
    refine ⟨?_, ?_⟩
    · rintro L a1 w1 hT - - ⟨h17, -⟩   -- 5: Op.call { value (Operand.func 20), args := #[t17], argTypes := #[9] }
      have e17 : a1.tmps.getD 17 undef = _ := h17
      have f17 := getD_form e17
      clear h17
      go_simp; go_at_call 20; (with_reducible refine (S2.out _).mono ?_); rintro e w2 ⟨rfl, hb⟩; exact left_intro rfl (Stp.of hb) trivial
    refine ⟨?_, ?_⟩
    · rintro L a1 w1 hT - - ⟨h14, h18, -⟩   -- 6: Op.binOp BinOp.neq 25 t14 t18 25
      have e14 : a1.tmps.getD 14 undef = _ := h14
      have f14 := getD_form e14
      have e18 : a1.tmps.getD 18 undef = _ := h18
      have f18 := getD_form e18
      clear h14 h18
      exact wp_bin .neq 25 25 (.tmp 14) (.tmp 18) rfl _ _ e14 e18 guard_lab _ ((neq_lab _ _ (by assumption) (by assumption) _).trans (by rw [q2])) (left_intro rfl (Stp.refl _) trivial)
    refine ⟨?_, ?_⟩
    · rintro L a1 w1 hT - - ⟨h19, -⟩   -- 7: Op.move t19
      have e19 : a1.tmps.getD 19 undef = _ := h19
      have f19 := getD_form e19
      clear h19
      go_simp; exact left_intro rfl (Stp.refl _) trivial
    refine ⟨?_, ?_⟩
    · rintro L a1 w1 hT - - ⟨h5, h20, -⟩   -- 8: Op.load 25 t5
      have e5 : a1.tmps.getD 5 undef = _ := h5
      have f5 := getD_form e5
      have e20 : a1.tmps.getD 20 undef = _ := h20
      have f20 := getD_form e20
      clear h5 h20
      refine ⟨false, 20, by rfl, e20, ?_⟩; rw [if_pos rfl]
      exact wp_load_lab (.tmp 5) rfl e5 (B0.at_ hT) hs (left_intro rfl (Stp.refl _) trivial)
    refine ⟨?_, ?_⟩
    · rintro L a1 w1 hT - - ⟨h21, h20, -⟩   -- 9: Op.call { value (Operand.func 39), args := #[t21], argTypes := #[25] }
      have e21 : a1.tmps.getD 21 undef = _ := h21
      have f21 := getD_form e21
      have e20 : a1.tmps.getD 20 undef = _ := h20
      have f20 := getD_form e20
      clear h21 h20
      refine ⟨false, 20, by rfl, e20, ?_⟩; rw [if_pos rfl]
      go_simp; go_at_call 39; (with_reducible refine (F3.out _).mono ?_); rintro e w2 ⟨rfl, hb⟩; exact left_intro rfl (Stp.of hb) trivial
    refine ⟨?_, ?_⟩
    · rintro L a1 w1 hT - - ⟨h5, h20, -⟩   -- 10: Op.load 25 t5
      have e5 : a1.tmps.getD 5 undef = _ := h5
      have f5 := getD_form e5
      have e20 : a1.tmps.getD 20 undef = _ := h20
      have f20 := getD_form e20
      clear h5 h20
      refine ⟨false, 20, by rfl, e20, ?_⟩; rw [if_pos rfl]
      exact wp_load_lab (.tmp 5) rfl e5 (B0.at_ hT) hs (left_intro rfl (Stp.refl _) trivial)
    refine ⟨?_, ?_⟩
    · rintro L a1 w1 hT - - ⟨h23, h20, -⟩   -- 11: Op.buildSlice 54 1 #[(0, t23)]
      have e23 : a1.tmps.getD 23 undef = _ := h23
      have f23 := getD_form e23
      have e20 : a1.tmps.getD 20 undef = _ := h20
      have f20 := getD_form e20
      clear h23 h20
      refine ⟨false, 20, by rfl, e20, ?_⟩; rw [if_pos rfl]
      exact wp_build_lab 23 rfl e23 (by assumption) (left_intro (T := Stp) (Ph := fun _ _ _ => True) (blkRow_new _ _ _ _ _) (Stp.alloc _ _) trivial)
    refine ⟨?_, ?_⟩
    · rintro L a1 w1 hT - - ⟨h24, h20, -⟩   -- 12: Op.call { value (Operand.func 35), args := #[const (3:u8), t24, const (Value.slice none 0 
      obtain ⟨b24, e24, B24⟩ : (blkRow 1 1 (labA s) 25) (a1.tmps.getD 24 undef) w1 := h24
      have f24 := getD_form e24
      have e20 : a1.tmps.getD 20 undef = _ := h20
      have f20 := getD_form e20
      clear h20
      refine ⟨false, 20, by rfl, e20, ?_⟩; rw [if_pos rfl]
      go_simp; go_at_call 35; (with_reducible refine (RB3.out _ _ (Labs.one hs B24)).mono ?_); rintro e w2 ⟨rfl, hb⟩; exact left_intro rfl (Stp.of hb) trivial
    refine ⟨?_, ?_⟩
    · rintro L a1 w1 hT - - ⟨h25, h20, -⟩   -- 13: Op.call { value (Operand.func 20), args := #[t25], argTypes := #[9] }
      have e25 : a1.tmps.getD 25 undef = _ := h25
      have f25 := getD_form e25
      have e20 : a1.tmps.getD 20 undef = _ := h20
      have f20 := getD_form e20
      clear h25 h20
      refine ⟨false, 20, by rfl, e20, ?_⟩; rw [if_pos rfl]
      go_simp; go_at_call 20; (with_reducible refine (S3.out _).mono ?_); rintro e w2 ⟨rfl, hb⟩; exact left_intro rfl (Stp.of hb) trivial
    refine ⟨?_, ?_⟩
    · rintro L a1 w1 hT - - ⟨h22, h26, h20, -⟩   -- 14: Op.binOp BinOp.neq 25 t22 t26 25
      have e22 : a1.tmps.getD 22 undef = _ := h22
      have f22 := getD_form e22
      have e26 : a1.tmps.getD 26 undef = _ := h26
      have f26 := getD_form e26
      have e20 : a1.tmps.getD 20 undef = _ := h20
      have f20 := getD_form e20
      clear h22 h26 h20
      refine ⟨false, 20, by rfl, e20, ?_⟩; rw [if_pos rfl]
      exact wp_bin .neq 25 25 (.tmp 22) (.tmp 26) rfl _ _ e22 e26 guard_lab _ ((neq_lab _ _ (by assumption) (by assumption) _).trans (by rw [q3])) (left_intro rfl (Stp.refl _) trivial)
    refine ⟨?_, ?_⟩
    · rintro L a1 w1 hT - - ⟨h20, h27, -⟩   -- 15: Op.pick t20 (const (Value.bool true)) t27
      have e20 : a1.tmps.getD 20 undef = _ := h20
      have f20 := getD_form e20
      have e27 : a1.tmps.getD 27 undef = _ := h27
      have f27 := getD_form e27
      clear h20 h27
      go_simp; exact left_intro rfl (Stp.refl _) trivial
    trivial
  case hmono => repeat (first | exact trivial | refine ⟨fun _ _ _ _ h => h, ?_⟩ | refine ⟨mono_blkRow _ _ _ _, ?_⟩)
  case hend =>
    intro w2 hT
    rintro _ rfl _ rfl _ rfl v16 - _ rfl _ rfl _ rfl _ rfl _ rfl _ rfl _ rfl v24 - _ rfl _ rfl _ rfl _ rfl
    simp only [relEnd, Act.put, List.setIfInBounds_toArray, List.set_cons_succ, List.set_cons_zero]
    go_wp2
    have B2 : Blk w2.drew w.heap.size (labA s) 25 := (Blk.at_ (w := w9) B0 hT).drew
    have B3 : Blk w2.drew (w.heap.size + 1) (labA z) 25 := (Blk.at_ (w := w9) B1 hT).drew
    have hB9 := hB.trans (hT.mono hB.size)
    clear B0 B1 hT hB
    have hcS : ∀ W, Stp w2.drew W → (convert 36 9 (.slice (some ⟨w.heap.size, 0, none⟩) 32 32)).run Try.prog W = .ok (.string SS) W := fun W h => hcv.out _ _ (B2.at_ h)
    apply wp_region_rel_below [[], [(29, some 0)], [(0, none), (30, some 1)], [(5, none), (30, some 1)], [(31, some 2), (32, some 3), (30, some 1)], [(0, none), (30, some 1)], [(5, none), (30, some 1)], [(35, some 6), (30, some 1)], [(36, some 7), (30, some 1)], [(34, some 5), (37, some 8), (30, some 1)], [(33, some 4), (38, some 9), (30, some 1)], [(30, some 1), (39, some 10)], [(40, some 11)], [(3, none), (41, some 12)], [(6, none), (41, some 12)], [(42, some 13), (43, some 14), (41, some 12)], [(6, none), (41, some 12)], [(45, some 16), (41, some 12)], [(3, none), (41, some 12)], [(47, some 18), (41, some 12)], [(46, some 17), (48, some 19), (41, some 12)], [(49, some 20), (41, some 12)], [(44, some 15), (50, some 21), (41, some 12)], [(41, some 12), (51, some 22)], [(52, some 23)], [(53, some 24)], [(53, some 24)], [(54, some 25), (55, some 26), (53, some 24)], [(53, some 24), (56, some 27)], [(57, some 28)], [(58, some 29)], [(58, some 29)], [(59, some 30), (60, some 31), (58, some 29)], [(58, some 29), (61, some 32)], [(62, some 33)]] [eqv _, eqv _, eqv _, eqv _, eqv _, eqv _, eqv _, eqv _, eqv _, eqv _, eqv _, eqv _, eqv _, eqv _, eqv _, eqv _, eqv _, blkRow 1 1 (labA z) 25, eqv _, blkRow 1 1 #[strV v] 9, eqv _, eqv _, eqv _, eqv _, eqv _, eqv _, eqv _, eqv _, eqv _, eqv _, eqv _, eqv _, eqv _, eqv _, eqv _] (by kernel_rfl) (by kernel_rfl)
    case hobs =>
      refine ⟨?_, ?_⟩
      · rintro L a1 w1 hT - - -   -- 0: Op.call { value (Operand.func 32), args := #[], argTypes := #[] }
        go_simp; go_at_call 32; (with_reducible refine (lawake_any _).mono ?_); rintro e w2 ⟨rfl, hb⟩; exact left_intro rfl (Stp.of hb) trivial
      refine ⟨?_, ?_⟩
      · rintro L a1 w1 hT - - ⟨h29, -⟩   -- 1: Op.move t29
        have e29 : a1.tmps.getD 29 undef = _ := h29
        have f29 := getD_form e29
        clear h29
        go_simp; exact left_intro rfl (Stp.refl _) trivial
      refine ⟨?_, ?_⟩
      · rintro L a1 w1 hT - - ⟨h0, h30, -⟩   -- 2: Op.move t0
        have e0 : a1.tmps.getD 0 undef = _ := h0
        have f0 := getD_form e0
        have e30 : a1.tmps.getD 30 undef = _ := h30
        have f30 := getD_form e30
        clear h0 h30
        refine ⟨true, 30, by rfl, e30, ?_⟩; rw [if_pos rfl]
        go_simp; exact left_intro rfl (Stp.refl _) trivial
      refine ⟨?_, ?_⟩
      · rintro L a1 w1 hT - - ⟨h5, h30, -⟩   -- 3: Op.load 25 t5
        have e5 : a1.tmps.getD 5 undef = _ := h5
        have f5 := getD_form e5
        have e30 : a1.tmps.getD 30 undef = _ := h30
        have f30 := getD_form e30
        clear h5 h30
        refine ⟨true, 30, by rfl, e30, ?_⟩; rw [if_pos rfl]
        exact wp_load_lab (.tmp 5) rfl e5 (B2.at_ hT) hs (left_intro rfl (Stp.refl _) trivial)
      refine ⟨?_, ?_⟩
      · rintro L a1 w1 hT - - ⟨h31, h32, h30, -⟩   -- 4: Op.call { value (Operand.func 40), args := #[t31, t32], argTypes := #[9, 25] }
        have e31 : a1.tmps.getD 31 undef = _ := h31
        have f31 := getD_form e31
        have e32 : a1.tmps.getD 32 undef = _ := h32
        have f32 := getD_form e32
        have e30 : a1.tmps.getD 30 undef = _ := h30
        have f30 := getD_form e30
        clear h31 h32 h30
        refine ⟨true, 30, by rfl, e30, ?_⟩; rw [if_pos rfl]
        go_simp; go_at_call 40; (with_reducible refine (NN.out _).mono ?_); rintro e w2 ⟨rfl, hb⟩; exact left_intro rfl (Stp.of hb) trivial
      refine ⟨?_, ?_⟩
      · rintro L a1 w1 hT - - ⟨h0, h30, -⟩   -- 5: Op.move t0
        have e0 : a1.tmps.getD 0 undef = _ := h0
        have f0 := getD_form e0
        have e30 : a1.tmps.getD 30 undef = _ := h30
        have f30 := getD_form e30
        clear h0 h30
        refine ⟨true, 30, by rfl, e30, ?_⟩; rw [if_pos rfl]
        go_simp; exact left_intro rfl (Stp.refl _) trivial
      refine ⟨?_, ?_⟩
      · rintro L a1 w1 hT - - ⟨h5, h30, -⟩   -- 6: Op.slice 25 t5 none none none
        have e5 : a1.tmps.getD 5 undef = _ := h5
        have f5 := getD_form e5
        have e30 : a1.tmps.getD 30 undef = _ := h30
        have f30 := getD_form e30
        clear h5 h30
        refine ⟨true, 30, by rfl, e30, ?_⟩; rw [if_pos rfl]
        go_simp; exact left_intro rfl (Stp.refl _) trivial
      refine ⟨?_, ?_⟩
      · rintro L a1 w1 hT - - ⟨h35, h30, -⟩   -- 7: Op.convert 36 9 t35
        have e35 : a1.tmps.getD 35 undef = _ := h35
        have f35 := getD_form e35
        have e30 : a1.tmps.getD 30 undef = _ := h30
        have f30 := getD_form e30
        clear h35 h30
        refine ⟨true, 30, by rfl, e30, ?_⟩; rw [if_pos rfl]
        have c35 := hcS w1 hT
        go_simp; exact left_intro rfl (Stp.refl _) trivial
      refine ⟨?_, ?_⟩
      · rintro L a1 w1 hT - - ⟨h36, h30, -⟩   -- 8: Op.binOp BinOp.add 9 (const (Value.string { data := #[110, 111, 110, 99, 101] })) t36 9
        have e36 : a1.tmps.getD 36 undef = _ := h36
        have f36 := getD_form e36
        have e30 : a1.tmps.getD 30 undef = _ := h30
        have f30 := getD_form e30
        clear h36 h30
        refine ⟨true, 30, by rfl, e30, ?_⟩; rw [if_pos rfl]
        go_simp; exact left_intro rfl (Stp.refl _) trivial
      refine ⟨?_, ?_⟩
      · rintro L a1 w1 hT - - ⟨h34, h37, h30, -⟩   -- 9: Op.call { value (Operand.func 28), args := #[t34, t37], argTypes := #[9, 9] }
        have e34 : a1.tmps.getD 34 undef = _ := h34
        have f34 := getD_form e34
        have e37 : a1.tmps.getD 37 undef = _ := h37
        have f37 := getD_form e37
        have e30 : a1.tmps.getD 30 undef = _ := h30
        have f30 := getD_form e30
        clear h34 h37 h30
        refine ⟨true, 30, by rfl, e30, ?_⟩; rw [if_pos rfl]
        go_simp; go_at_call 28; (with_reducible refine (MM.out _).mono ?_); rintro e w2 ⟨rfl, hb⟩; exact left_intro rfl (Stp.of hb) trivial
      refine ⟨?_, ?_⟩
      · rintro L a1 w1 hT - - ⟨h33, h38, h30, -⟩   -- 10: Op.binOp BinOp.eql 25 t33 t38 25
        have e33 : a1.tmps.getD 33 undef = _ := h33
        have f33 := getD_form e33
        have e38 : a1.tmps.getD 38 undef = _ := h38
        have f38 := getD_form e38
        have e30 : a1.tmps.getD 30 undef = _ := h30
        have f30 := getD_form e30
        clear h33 h38 h30
        refine ⟨true, 30, by rfl, e30, ?_⟩; rw [if_pos rfl]
        exact wp_bin .eql 25 25 (.tmp 33) (.tmp 38) rfl _ _ e33 e38 guard_lab _ ((eql_lab _ _ (by assumption) (by assumption) _).trans (by rw [qn])) (left_intro rfl (Stp.refl _) trivial)
      refine ⟨?_, ?_⟩
      · rintro L a1 w1 hT - - ⟨h30, h39, -⟩   -- 11: Op.pick t30 t39 (const (Value.bool false))
        have e30 : a1.tmps.getD 30 undef = _ := h30
        have f30 := getD_form e30
        have e39 : a1.tmps.getD 39 undef = _ := h39
        have f39 := getD_form e39
        clear h30 h39
        go_simp; exact left_intro rfl (Stp.refl _) trivial
      refine ⟨?_, ?_⟩
      · rintro L a1 w1 hT - - ⟨h40, -⟩   -- 12: Op.move t40
        have e40 : a1.tmps.getD 40 undef = _ := h40
        have f40 := getD_form e40
        clear h40
        go_simp; exact left_intro rfl (Stp.refl _) trivial
      refine ⟨?_, ?_⟩
      · rintro L a1 w1 hT - - ⟨h3, h41, -⟩   -- 13: Op.move t3
        have e3 : a1.tmps.getD 3 undef = _ := h3
        have f3 := getD_form e3
        have e41 : a1.tmps.getD 41 undef = _ := h41
        have f41 := getD_form e41
        clear h3 h41
        refine ⟨true, 41, by rfl, e41, ?_⟩; rw [if_pos rfl]
        go_simp; exact left_intro rfl (Stp.refl _) trivial
      refine ⟨?_, ?_⟩
      · rintro L a1 w1 hT - - ⟨h6, h41, -⟩   -- 14: Op.load 25 t6
        have e6 : a1.tmps.getD 6 undef = _ := h6
        have f6 := getD_form e6
        have e41 : a1.tmps.getD 41 undef = _ := h41
        have f41 := getD_form e41
        clear h6 h41
        refine ⟨true, 41, by rfl, e41, ?_⟩; rw [if_pos rfl]
        exact wp_load_lab (.tmp 6) rfl e6 (B3.at_ hT) hz (left_intro rfl (Stp.refl _) trivial)
      refine ⟨?_, ?_⟩
      · rintro L a1 w1 hT - - ⟨h42, h43, h41, -⟩   -- 15: Op.call { value (Operand.func 41), args := #[t42, t43], argTypes := #[9, 25] }
        have e42 : a1.tmps.getD 42 undef = _ := h42
        have f42 := getD_form e42
        have e43 : a1.tmps.getD 43 undef = _ := h43
        have f43 := getD_form e43
        have e41 : a1.tmps.getD 41 undef = _ := h41
        have f41 := getD_form e41
        clear h42 h43 h41
        refine ⟨true, 41, by rfl, e41, ?_⟩; rw [if_pos rfl]
        go_simp; go_at_call 41; (with_reducible refine (CC.out _).mono ?_); rintro e w2 ⟨rfl, hb⟩; exact left_intro rfl (Stp.of hb) trivial
      refine ⟨?_, ?_⟩
      · rintro L a1 w1 hT - - ⟨h6, h41, -⟩   -- 16: Op.load 25 t6
        have e6 : a1.tmps.getD 6 undef = _ := h6
        have f6 := getD_form e6
        have e41 : a1.tmps.getD 41 undef = _ := h41
        have f41 := getD_form e41
        clear h6 h41
        refine ⟨true, 41, by rfl, e41, ?_⟩; rw [if_pos rfl]
        exact wp_load_lab (.tmp 6) rfl e6 (B3.at_ hT) hz (left_intro rfl (Stp.refl _) trivial)
      refine ⟨?_, ?_⟩
      · rintro L a1 w1 hT - - ⟨h45, h41, -⟩   -- 17: Op.buildSlice 54 1 #[(0, t45)]
        have e45 : a1.tmps.getD 45 undef = _ := h45
        have f45 := getD_form e45
        have e41 : a1.tmps.getD 41 undef = _ := h41
        have f41 := getD_form e41
        clear h45 h41
        refine ⟨true, 41, by rfl, e41, ?_⟩; rw [if_pos rfl]
        exact wp_build_lab 45 rfl e45 (by assumption) (left_intro (T := Stp) (Ph := fun _ _ _ => True) (blkRow_new _ _ _ _ _) (Stp.alloc _ _) trivial)
      refine ⟨?_, ?_⟩
      · rintro L a1 w1 hT - - ⟨h3, h41, -⟩   -- 18: Op.move t3
        have e3 : a1.tmps.getD 3 undef = _ := h3
        have f3 := getD_form e3
        have e41 : a1.tmps.getD 41 undef = _ := h41
        have f41 := getD_form e41
        clear h3 h41
        refine ⟨true, 41, by rfl, e41, ?_⟩; rw [if_pos rfl]
        go_simp; exact left_intro rfl (Stp.refl _) trivial
      refine ⟨?_, ?_⟩
      · rintro L a1 w1 hT - - ⟨h47, h41, -⟩   -- 19: Op.buildSlice 38 1 #[(0, t47)]
        have e47 : a1.tmps.getD 47 undef = _ := h47
        have f47 := getD_form e47
        have e41 : a1.tmps.getD 41 undef = _ := h41
        have f41 := getD_form e41
        clear h47 h41
        refine ⟨true, 41, by rfl, e41, ?_⟩; rw [if_pos rfl]
        go_simp; exact left_intro (T := Stp) (Ph := fun _ _ _ => True) (blkRow_new _ _ _ _ _) (Stp.alloc _ _) trivial
      refine ⟨?_, ?_⟩
      · rintro L a1 w1 hT - - ⟨h46, h48, h41, -⟩   -- 20: Op.call { value (Operand.func 35), args := #[const (4:u8), t46, t48], argTypes := #[5, 54,
        obtain ⟨b46, e46, B46⟩ : (blkRow 1 1 (labA z) 25) (a1.tmps.getD 46 undef) w1 := h46
        have f46 := getD_form e46
        obtain ⟨b48, e48, B48⟩ : (blkRow 1 1 #[strV v] 9) (a1.tmps.getD 48 undef) w1 := h48
        have f48 := getD_form e48
        have e41 : a1.tmps.getD 41 undef = _ := h41
        have f41 := getD_form e41
        clear h41
        refine ⟨true, 41, by rfl, e41, ?_⟩; rw [if_pos rfl]
        go_simp; go_at_call 35; (with_reducible refine (RB4.out _ _ _ (Labs.one hz B46) (Strs.one B48)).mono ?_); rintro e w2 ⟨rfl, hb⟩; exact left_intro rfl (Stp.of hb) trivial
      refine ⟨?_, ?_⟩
      · rintro L a1 w1 hT - - ⟨h49, h41, -⟩   -- 21: Op.call { value (Operand.func 20), args := #[t49], argTypes := #[9] }
        have e49 : a1.tmps.getD 49 undef = _ := h49
        have f49 := getD_form e49
        have e41 : a1.tmps.getD 41 undef = _ := h41
        have f41 := getD_form e41
        clear h49 h41
        refine ⟨true, 41, by rfl, e41, ?_⟩; rw [if_pos rfl]
        go_simp; go_at_call 20; (with_reducible refine (S4.out _).mono ?_); rintro e w2 ⟨rfl, hb⟩; exact left_intro rfl (Stp.of hb) trivial
      refine ⟨?_, ?_⟩
      · rintro L a1 w1 hT - - ⟨h44, h50, h41, -⟩   -- 22: Op.binOp BinOp.eql 25 t44 t50 25
        have e44 : a1.tmps.getD 44 undef = _ := h44
        have f44 := getD_form e44
        have e50 : a1.tmps.getD 50 undef = _ := h50
        have f50 := getD_form e50
        have e41 : a1.tmps.getD 41 undef = _ := h41
        have f41 := getD_form e41
        clear h44 h50 h41
        refine ⟨true, 41, by rfl, e41, ?_⟩; rw [if_pos rfl]
        exact wp_bin .eql 25 25 (.tmp 44) (.tmp 50) rfl _ _ e44 e50 guard_lab _ ((eql_lab _ _ (by assumption) (by assumption) _).trans (by rw [q4])) (left_intro rfl (Stp.refl _) trivial)
      refine ⟨?_, ?_⟩
      · rintro L a1 w1 hT - - ⟨h41, h51, -⟩   -- 23: Op.pick t41 t51 (const (Value.bool false))
        have e41 : a1.tmps.getD 41 undef = _ := h41
        have f41 := getD_form e41
        have e51 : a1.tmps.getD 51 undef = _ := h51
        have f51 := getD_form e51
        clear h41 h51
        go_simp; exact left_intro rfl (Stp.refl _) trivial
      refine ⟨?_, ?_⟩
      · rintro L a1 w1 hT - - ⟨h52, -⟩   -- 24: Op.move t52
        have e52 : a1.tmps.getD 52 undef = _ := h52
        have f52 := getD_form e52
        clear h52
        go_simp; exact left_intro rfl (Stp.refl _) trivial
      refine ⟨?_, ?_⟩
      · rintro L a1 w1 hT - - ⟨h53, -⟩   -- 25: Op.call { value (Operand.func 42), args := #[], argTypes := #[] }
        have e53 : a1.tmps.getD 53 undef = _ := h53
        have f53 := getD_form e53
        clear h53
        refine ⟨true, 53, by rfl, e53, ?_⟩; rw [if_pos rfl]
        go_simp; go_at_call 42; (with_reducible refine (T5.out _).mono ?_); rintro e w2 ⟨rfl, hb⟩; exact left_intro rfl (Stp.of hb) trivial
      refine ⟨?_, ?_⟩
      · rintro L a1 w1 hT - - ⟨h53, -⟩   -- 26: Op.call { value (Operand.func 20), args := #[const (Value.string { data := #[5] })], argTy
        have e53 : a1.tmps.getD 53 undef = _ := h53
        have f53 := getD_form e53
        clear h53
        refine ⟨true, 53, by rfl, e53, ?_⟩; rw [if_pos rfl]
        go_simp; go_at_call 20; (with_reducible refine (S5.out _).mono ?_); rintro e w2 ⟨rfl, hb⟩; exact left_intro rfl (Stp.of hb) trivial
      refine ⟨?_, ?_⟩
      · rintro L a1 w1 hT - - ⟨h54, h55, h53, -⟩   -- 27: Op.binOp BinOp.eql 25 t54 t55 25
        have e54 : a1.tmps.getD 54 undef = _ := h54
        have f54 := getD_form e54
        have e55 : a1.tmps.getD 55 undef = _ := h55
        have f55 := getD_form e55
        have e53 : a1.tmps.getD 53 undef = _ := h53
        have f53 := getD_form e53
        clear h54 h55 h53
        refine ⟨true, 53, by rfl, e53, ?_⟩; rw [if_pos rfl]
        exact wp_bin .eql 25 25 (.tmp 54) (.tmp 55) rfl _ _ e54 e55 guard_lab _ ((eql_lab _ _ (by assumption) (by assumption) _).trans (by rw [q5])) (left_intro rfl (Stp.refl _) trivial)
      refine ⟨?_, ?_⟩
      · rintro L a1 w1 hT - - ⟨h53, h56, -⟩   -- 28: Op.pick t53 t56 (const (Value.bool false))
        have e53 : a1.tmps.getD 53 undef = _ := h53
        have f53 := getD_form e53
        have e56 : a1.tmps.getD 56 undef = _ := h56
        have f56 := getD_form e56
        clear h53 h56
        go_simp; exact left_intro rfl (Stp.refl _) trivial
      refine ⟨?_, ?_⟩
      · rintro L a1 w1 hT - - ⟨h57, -⟩   -- 29: Op.move t57
        have e57 : a1.tmps.getD 57 undef = _ := h57
        have f57 := getD_form e57
        clear h57
        go_simp; exact left_intro rfl (Stp.refl _) trivial
      refine ⟨?_, ?_⟩
      · rintro L a1 w1 hT - - ⟨h58, -⟩   -- 30: Op.call { value (Operand.func 43), args := #[], argTypes := #[] }
        have e58 : a1.tmps.getD 58 undef = _ := h58
        have f58 := getD_form e58
        clear h58
        refine ⟨true, 58, by rfl, e58, ?_⟩; rw [if_pos rfl]
        go_simp; go_at_call 43; (with_reducible refine (T6.out _).mono ?_); rintro e w2 ⟨rfl, hb⟩; exact left_intro rfl (Stp.of hb) trivial
      refine ⟨?_, ?_⟩
      · rintro L a1 w1 hT - - ⟨h58, -⟩   -- 31: Op.call { value (Operand.func 20), args := #[const (Value.string { data := #[6] })], argTy
        have e58 : a1.tmps.getD 58 undef = _ := h58
        have f58 := getD_form e58
        clear h58
        refine ⟨true, 58, by rfl, e58, ?_⟩; rw [if_pos rfl]
        go_simp; go_at_call 20; (with_reducible refine (S6.out _).mono ?_); rintro e w2 ⟨rfl, hb⟩; exact left_intro rfl (Stp.of hb) trivial
      refine ⟨?_, ?_⟩
      · rintro L a1 w1 hT - - ⟨h59, h60, h58, -⟩   -- 32: Op.binOp BinOp.eql 25 t59 t60 25
        have e59 : a1.tmps.getD 59 undef = _ := h59
        have f59 := getD_form e59
        have e60 : a1.tmps.getD 60 undef = _ := h60
        have f60 := getD_form e60
        have e58 : a1.tmps.getD 58 undef = _ := h58
        have f58 := getD_form e58
        clear h59 h60 h58
        refine ⟨true, 58, by rfl, e58, ?_⟩; rw [if_pos rfl]
        exact wp_bin .eql 25 25 (.tmp 59) (.tmp 60) rfl _ _ e59 e60 guard_lab _ ((eql_lab _ _ (by assumption) (by assumption) _).trans (by rw [q6])) (left_intro rfl (Stp.refl _) trivial)
      refine ⟨?_, ?_⟩
      · rintro L a1 w1 hT - - ⟨h58, h61, -⟩   -- 33: Op.pick t58 t61 (const (Value.bool false))
        have e58 : a1.tmps.getD 58 undef = _ := h58
        have f58 := getD_form e58
        have e61 : a1.tmps.getD 61 undef = _ := h61
        have f61 := getD_form e61
        clear h58 h61
        go_simp; exact left_intro rfl (Stp.refl _) trivial
      refine ⟨?_, ?_⟩
      · rintro L a1 w1 hT - - ⟨h62, -⟩   -- 34: Op.assign t62
        have e62 : a1.tmps.getD 62 undef = _ := h62
        have f62 := getD_form e62
        clear h62
        go_simp; exact left_intro rfl (Stp.refl _) trivial
      trivial
    case hmono => repeat (first | exact trivial | refine ⟨fun _ _ _ _ h => h, ?_⟩ | refine ⟨mono_blkRow _ _ _ _, ?_⟩)
    case hend =>
      intro w2 hT
      rintro _ rfl _ rfl _ rfl _ rfl _ rfl _ rfl _ rfl _ rfl _ rfl _ rfl _ rfl _ rfl _ rfl _ rfl _ rfl _ rfl _ rfl v46 - _ rfl v48 - _ rfl _ rfl _ rfl _ rfl _ rfl _ rfl _ rfl _ rfl _ rfl _ rfl _ rfl _ rfl _ rfl _ rfl _ rfl
      simp only [relEnd, Act.put, List.setIfInBounds_toArray, List.set_cons_succ, List.set_cons_zero]
      go_wp2
      go_ret
      exact ⟨rfl, hB9.trans (hT.mono hB9.size)⟩
set_option maxRecDepth 1000000 in
theorem stands_law : LawHolds 12 Try.f12 := by
  intro H enc W base args ds p hval hA
  rw [Try.params12] at hA hval
  obtain ⟨v0, vs0, d0, ds0, p0, q0, hargs, rfl, rfl, k0, r0⟩ := trodAll_cons hA
  obtain ⟨v1, vs1, d1, ds1, p1, q1, rfl, rfl, rfl, k1, r1⟩ := trodAll_cons r0
  obtain ⟨v2, vs2, d2, ds2, p2, q2, rfl, rfl, rfl, k2, r2⟩ := trodAll_cons r1
  obtain ⟨v3, vs3, d3, ds3, p3, q3, rfl, rfl, rfl, k3, r3⟩ := trodAll_cons r2
  obtain ⟨rfl, rfl, rfl⟩ := trodAll_nil r3
  obtain rfl : args = #[v0, v1, v2, v3] := by cases args; simp_all
  obtain ⟨l, rfl, _⟩ := open_text (hval 0 9 v0 rfl rfl) k0
  obtain ⟨a, ha, rfl⟩ := open_lab (hval 1 25 v1 rfl rfl) k1
  obtain ⟨b, hb, rfl⟩ := open_lab (hval 2 25 v2 rfl rfl) k2
  obtain ⟨m, rfl, _⟩ := open_text (hval 3 9 v3 rfl rfl) k3
  exact stands_walk l a b m ha hb W

theorem stands_lifted (os : Os) (started : os.Started) (H : Type) (enc : TypeId × Value → H) :
    ReturnsInHanded {} Try.checked os 12 .any (Rows.labelStandsSpec.pre6 enc Try.prog Try.f12 Rows.labelStandsRow.domain false) (Rows.labelStandsSpec.post enc Try.prog Try.f12 false true false false) :=
  lifted_of started (by kernel_rfl) Try.func12
    (ChangeSpec.witness6 (enc := enc) (C := Try.checked) false ⟨#[], #[.string ⟨#[]⟩, .agg (labA zlab), .agg (labA zlab), .string ⟨#[]⟩], []⟩ 8 (by kernel_rfl) (by kernel_rfl) (by kernel_rfl) (by kernel_rfl))
    rfl (by kernel_rfl) (fun ds h => by rw [Try.params12] at h; match ds, h with | [_, _, _, _], _ => rfl) (by rw [Try.params12]; exact of_decide_eq_true (by kernel_rfl)) stands_law
theorem stands_over : Rows.labelStandsRow.holds Try.pinned (OpenSpec.ofChange Rows.labelStandsSpec) :=
  OpenClaim.holds_of_wide 12 Try.f12 rfl rfl rfl rfl rfl rfl rfl ⟨rfl, rfl, rfl, rfl, rfl⟩ rfl rfl rfl rfl rfl (by kernel_rfl) Try.func12 (by kernel_rfl)
    (of_decide_eq_true (by kernel_rfl)) (by unfold Func.isWrapper; first | (rw [if_pos (by decide +kernel)]; kernel_rfl) | (rw [if_neg (by decide +kernel)]; exact ⟨rfl, rfl⟩))
    (fun os started H enc _ => stands_lifted os started H enc)
/-- The statement. -/
theorem stands_proved : Rows.LabelStandsSaid := stands_over
#print axioms stands_proved
end Go.Proofs.Ytgjmnhbkdccgpaa

/- SealSpoilt: a frame of which a few bytes are others isn't opened. No condition. -/
import Derived.Test.YtknkbioalohofaaSealAwake
import Derived.Test.YtknkbioalohofaaPureSpoilt
import Derived.Test.YtknkbioalohofaaKit7
namespace Go.Proofs.Ytknkbioalohofaa
open Go.ChangeShapes Go.WideShapes Go.ChangeAt Go.RowKit

theorem shr8 (n m : Nat) : (n : Int) / 2 ^ (8 * (m : Int)).toNat = ((n / 256 ^ m : Nat) : Int) := by
  have e : (8 * (m : Int)).toNat = 8 * m := by omega
  have e2 : ((2 : Int) ^ (8 * m)) = (((256 : Nat) ^ m : Nat) : Int) := by rw [Int.natCast_pow, Int.pow_mul]; rfl
  rw [e, e2, Int.natCast_ediv]
set_option maxRecDepth 100000 in
set_option maxHeartbeats 4000000 in
theorem spoilt_walk (s : List UInt8) (at_ : Int) (T : Nat) (hT : T < 4294967296) (w : World) :
    Calls Try.prog 6 #[.string ⟨s.toArray⟩, .int .i64 at_, .int .u32 (T : Int)] w fun e w' => e = .returned (.bool true) ∧ Below w.heap.size w w' := by
  have h0 := lcut_any s 300
  rw [show ((300 : Nat) : Int) = 300 from rfl] at h0
  have ht : (s.take 300).length ≤ 300 := by rw [List.length_take]; omega
  generalize s.take 300 = t at h0 ht
  have H0 := Lib.hid h0
  have H1 := Lib.hid (wrap_any t (by omega))
  have hwl := C.wrap_length t
  have dne : (((C.wrap t).length : Int) != (t.length : Int) + 8) = false := by rw [hwl]; simp
  have Hsp := Lib.hid (C.spl_spoilt t (by omega))
  have hL : (C.wrap t).length ≤ 308 := by omega
  have hL8 : 8 ≤ (C.wrap t).length := by omega
  have htb : (t.length : Int) ≤ 300 := by omega
  clear h0 hwl ht
  generalize C.wrap t = F at *
  by_cases ha0 : at_ < 0
  · have d1 : decide (at_ < 0) = true := by simpa using ha0
    go_enter Try.func6, Try.ntmps6
    go_wp2_with (first | (go_at_call 19; with_reducible refine (H0.out _).mono ?_; rintro e w1 ⟨rfl, rfl⟩) | (go_at_call 20; with_reducible refine (H1.out _).mono ?_; rintro e w1 ⟨rfl, hB⟩) | (go_at_call 21; with_reducible refine (awake_any _).mono ?_; rintro e w2 ⟨rfl, hb2⟩; replace hB := hB.trans (hb2.mono hB.size)))
    go_ret
    exact ⟨rfl, hB⟩
  · obtain ⟨a, rfl⟩ := Int.eq_ofNat_of_zero_le (show 0 ≤ at_ by omega)
    have d1 : decide ((a : Int) < 0) = false := by simp
    by_cases ha1 : F.length ≤ a
    · have d2 : decide (F.length ≤ a) = true := by simpa using ha1
      have d2' : decide ((F.length : Int) ≤ (a : Int)) = true := by simp; omega
      go_enter Try.func6, Try.ntmps6
      go_wp2_with (first | (go_at_call 19; with_reducible refine (H0.out _).mono ?_; rintro e w1 ⟨rfl, rfl⟩) | (go_at_call 20; with_reducible refine (H1.out _).mono ?_; rintro e w1 ⟨rfl, hB⟩) | (go_at_call 21; with_reducible refine (awake_any _).mono ?_; rintro e w2 ⟨rfl, hb2⟩; replace hB := hB.trans (hb2.mono hB.size)))
      go_ret
      exact ⟨rfl, hB⟩
    · have d2 : decide (F.length ≤ a) = false := by simpa using ha1
      have d2' : decide ((F.length : Int) ≤ (a : Int)) = false := by simp; omega
      by_cases hT0 : T = 0
      · subst hT0
        go_enter Try.func6, Try.ntmps6
        go_wp2_with (first | (go_at_call 19; with_reducible refine (H0.out _).mono ?_; rintro e w1 ⟨rfl, rfl⟩) | (go_at_call 20; with_reducible refine (H1.out _).mono ?_; rintro e w1 ⟨rfl, hB⟩) | (go_at_call 21; with_reducible refine (awake_any _).mono ?_; rintro e w2 ⟨rfl, hb2⟩; replace hB := hB.trans (hb2.mono hB.size)))
        go_ret
        exact ⟨rfl, hB⟩
      · have d3 : ((T : Int) == 0) = false := by rw [beq_eq_false_iff_ne]; omega
        go_enter Try.func6, Try.ntmps6
        go_wp2_with (first | (go_at_call 19; with_reducible refine (H0.out _).mono ?_; rintro e w1 ⟨rfl, rfl⟩) | (go_at_call 20; with_reducible refine (H1.out _).mono ?_; rintro e w1 ⟨rfl, hB⟩; have Hw1 := Lib.hid hB.size; obtain ⟨W, cap, z, hconv, hb3, hz3, hcap, b0⟩ := bytes_blk F w1 41 Try.underlying41; have Hz := Lib.hid hz3; clear hz3; clear hcap))
        clear hconv
        replace hB := hB.trans (hb3.mono hB.size)
        have haF : a < F.length := by omega
        have haL : (a : Int) < 308 := by omega
        have HF := Lib.hid (And.intro haF hL)
        clear ha0 ha1 d1 d2 d2' hT0 hb3 hL hL8 haF
        have b0' : BlkF W w1.heap.size (labA (C.spl F a T 0 ++ List.replicate z 0)) 5 := by rw [C.spl_zero]; exact b0
        go_loopw [10] (fun i wr => ∃ r : Nat, r ≤ 4 ∧ a + r ≤ F.length ∧ Hid (∀ i, i < r → C.inSum (a + i) = C.inSum a) ∧ i = .int .i64 (r : Int) ∧ BlkF wr w1.heap.size (labA (C.spl F a T r ++ List.replicate z 0)) 5 ∧ Below w.heap.size w wr) (fun i _ => 4 - (intOf i).toNat)
        case atStart => exact ⟨0, by omega, by have := HF.out.1; omega, Lib.hid (fun i h => absurd h (by omega)), rfl, b0', hB⟩
        case round =>
          have hBw := hB
          clear b0 b0' hB
          obtain ⟨r, hr4, hrF, hin, rfl, b1, hB⟩ := hrel
          have hlen := C.spl_length F a T r hrF
          by_cases hc : r < 4 ∧ a + r < F.length
          · obtain ⟨c1, c2⟩ := hc
            have e1 : decide ((r : Int) < 4) = true := by simp; omega
            have e2 : decide ((a : Int) + (r : Int) < (F.length : Int)) = true := by simp; omega
            have p3 : (a < 4 ∨ (4 ≤ a ∧ a < 8) ∨ 8 ≤ a) ∧ (a + r < 4 ∨ (4 ≤ a + r ∧ a + r < 8) ∨ 8 ≤ a + r) := by omega
            obtain ⟨pa | pa | pa, pb | pb | pb⟩ := p3
            · have q1 : decide ((4 : Int) ≤ (a : Int)) = false := by first | exact decide_eq_true (by omega) | exact decide_eq_false (by omega)
              have q2 : decide ((a : Int) < 8) = true := by first | exact decide_eq_true (by omega) | exact decide_eq_false (by omega)
              have q3 : decide ((4 : Int) ≤ (a : Int) + (r : Int)) = false := by first | exact decide_eq_true (by omega) | exact decide_eq_false (by omega)
              have q4 : decide ((a : Int) + (r : Int) < 8) = true := by first | exact decide_eq_true (by omega) | exact decide_eq_false (by omega)
              have hin2 : ∀ i, i < r + 1 → C.inSum (a + i) = C.inSum a := by
                intro i hi
                by_cases hir : i < r
                · exact hin.out i hir
                · obtain rfl : i = r := by omega
                  unfold C.inSum
                  first | (rw [decide_eq_false (by omega : ¬ 4 ≤ a + i), decide_eq_false (by omega : ¬ 4 ≤ a)]; rfl) | (rw [decide_eq_true (by omega : 4 ≤ a + i), decide_eq_true (by omega : 4 ≤ a), decide_eq_true (by omega : a + i < 8), decide_eq_true (by omega : a < 8)]) | (rw [decide_eq_false (by omega : ¬ a + i < 8), decide_eq_false (by omega : ¬ a < 8), Bool.and_false, Bool.and_false])
              have Hin2 := Lib.hid hin2
              clear hin2 pa pb hin
              have hgd := C.spl_get F a T r c2
              have hst := C.spl_set F a T r c2
              have hix0 : a + r < (C.spl F a T r ++ List.replicate z 0).length := by rw [List.length_append]; omega
              have hgd2 : (C.spl F a T r ++ List.replicate z 0).getD (a + r) 0 = F.getD (a + r) 0 := by rw [C.getD_app, if_pos (by omega), hgd]
              have k1 := blkF_bytes b1 (a + r) hix0
              have f1 := b1.free (a + r) (by rw [labA_size]; exact hix0)
              have b2 := blkF_put b1.drew (a + r) (F.getD (a + r) 0 ^^^ C.wb T r)
              rw [List.set_append_left _ _ (by omega), hst] at b2
              rw [hgd2] at k1
              have hx := (F.getD (a + r) 0).toNat_lt
              have hy := (C.wb T r).toNat_lt
              have hxor := u8_xor_nat (F.getD (a + r) 0).toNat (C.wb T r).toNat hx hy
              rw [← UInt8.toNat_xor] at hxor
              have hsh := shr8 T r
              have hw8 : IntKind.u8.wrap ((T / 256 ^ r : Nat) : Int) = ((C.wb T r).toNat : Int) := by
                rw [IntKind.wrap_u8]; unfold C.wb; rw [UInt8.toNat_ofNat']; omega
              have hml : IntKind.i64.wrap (8 * (r : Int)) = 8 * (r : Int) := IntWalk.i64_in _ (by omega)
              have hm0 : (0 : Int) ≤ 8 * (r : Int) := by omega
              have hm1 : 8 * (r : Int) ≤ 32 := by omega
              have hs1 : IntKind.i64.wrap ((a : Int) + (r : Int)) = ((a + r : Nat) : Int) := by rw [IntWalk.i64_in _ (by omega)]; omega
              generalize (F.getD (a + r) 0 ^^^ C.wb T r).toNat = Y at *
              generalize (F.getD (a + r) 0).toNat = X at *
              generalize (C.wb T r).toNat = B8 at *
              generalize T / 256 ^ r = q at *
              have hj0 : (0 : Int) ≤ ((a + r : Nat) : Int) := by omega
              have hj1 : ((a + r : Nat) : Int) < (F.length : Int) := by omega
              have Hc3 : Hid (a + (r + 1) ≤ F.length) := Lib.hid (by omega)
              clear c2 hst hgd hgd2 hix0 hlen hrF hx hy
              go_wp2
              generalize a + r = ix at *
              go_still_tail 13, (by kernel_rfl)
              change wpList _ _ _ _ _ wr.drew
              have k2 : wr.drew.cell? ⟨w1.heap.size, ix, none⟩ = some (.int .u8 (X : Int)) := k1
              have f2 : wr.drew.frozen? ⟨w1.heap.size, ix, none⟩ = false := f1
              have hB2 := hB.drew
              clear k1 f1 hB b1 hs1 hsh hw8 hxor hml hm0 hm1 hj0 hj1
              generalize wr.drew = w3 at *
              have hw1 : w.heap.size ≤ w1.heap.size := Hw1.out
              have hB3 := hB2.setCell (p := ⟨w1.heap.size, ix, none⟩) hw1 (.int .u8 (Y : Int))
              go_wp2
              exact ⟨⟨r + 1, by omega, Hc3.out, Lib.hid Hin2.out, by go_num, b2, hB3⟩, by simp [intOf]; omega⟩
            · have q1 : decide ((4 : Int) ≤ (a : Int)) = false := by first | exact decide_eq_true (by omega) | exact decide_eq_false (by omega)
              have q2 : decide ((a : Int) < 8) = true := by first | exact decide_eq_true (by omega) | exact decide_eq_false (by omega)
              have q3 : decide ((4 : Int) ≤ (a : Int) + (r : Int)) = true := by first | exact decide_eq_true (by omega) | exact decide_eq_false (by omega)
              have q4 : decide ((a : Int) + (r : Int) < 8) = true := by first | exact decide_eq_true (by omega) | exact decide_eq_false (by omega)
              have Hspoil := Lib.hid (Hsp.out a T r hr4 hrF hin.out)
              have etk : (C.spl F a T r ++ List.replicate z 0).take F.length = C.spl F a T r := by rw [← hlen]; exact List.take_left
              have hcv := conv_blkF b1 41 Try.underlying41 F.length cap (by rw [List.length_append]; omega)
              rw [etk] at hcv
              have hFb : (F.length : Int) ≤ 308 := by have := HF.out.2; omega
              clear etk hlen b1
              generalize C.spl F a T r = Bt at *
              have H5 := Lib.hid (open_any Bt)
              by_cases hbf : Bt = F
              · have dbf : (Bt == F) = true := by rw [hbf]; exact beq_self_eq_true _
                clear hbf
                go_wp2_with (first | (go_at_call 25; with_reducible refine (H5.out _).mono ?_; rintro e w5 ⟨rfl, hb5⟩; replace hB := hB.trans (hb5.mono hB.size)) | (go_at_call 21; with_reducible refine (awake_any _).mono ?_; rintro e w6 ⟨rfl, hb6⟩; replace hB := hB.trans (hb6.mono hB.size)))
                go_ret
                exact ⟨by first | rfl | simp, hB⟩
              · have dbf : (Bt == F) = false := beq_eq_false_iff_ne.2 hbf
                have hnot := Hspoil.out hbf
                clear hbf
                generalize C.opn Bt = R at H5 hnot
                obtain ⟨rt, rn, re⟩ := R
                simp only at H5 hnot
                by_cases he : re = 0
                · have dn : ((rn : Int) != (F.length : Int)) = true := by rw [bne_iff_ne]; intro e; exact hnot ⟨he, by omega⟩
                  subst he
                  clear hnot
                  go_wp2_with (first | (go_at_call 25; with_reducible refine (H5.out _).mono ?_; rintro e w5 ⟨rfl, hb5⟩; replace hB := hB.trans (hb5.mono hB.size)) | (go_at_call 21; with_reducible refine (awake_any _).mono ?_; rintro e w6 ⟨rfl, hb6⟩; replace hB := hB.trans (hb6.mono hB.size)))
                  go_ret
                  exact ⟨by first | rfl | simp, hB⟩
                · have de : ((re : Int) != 0) = true := by rw [bne_iff_ne]; omega
                  clear hnot he
                  go_wp2_with (first | (go_at_call 25; with_reducible refine (H5.out _).mono ?_; rintro e w5 ⟨rfl, hb5⟩; replace hB := hB.trans (hb5.mono hB.size)) | (go_at_call 21; with_reducible refine (awake_any _).mono ?_; rintro e w6 ⟨rfl, hb6⟩; replace hB := hB.trans (hb6.mono hB.size)))
                  go_ret
                  exact ⟨by first | rfl | simp, hB⟩
            · omega
            · omega
            · have q1 : decide ((4 : Int) ≤ (a : Int)) = true := by first | exact decide_eq_true (by omega) | exact decide_eq_false (by omega)
              have q2 : decide ((a : Int) < 8) = true := by first | exact decide_eq_true (by omega) | exact decide_eq_false (by omega)
              have q3 : decide ((4 : Int) ≤ (a : Int) + (r : Int)) = true := by first | exact decide_eq_true (by omega) | exact decide_eq_false (by omega)
              have q4 : decide ((a : Int) + (r : Int) < 8) = true := by first | exact decide_eq_true (by omega) | exact decide_eq_false (by omega)
              have hin2 : ∀ i, i < r + 1 → C.inSum (a + i) = C.inSum a := by
                intro i hi
                by_cases hir : i < r
                · exact hin.out i hir
                · obtain rfl : i = r := by omega
                  unfold C.inSum
                  first | (rw [decide_eq_false (by omega : ¬ 4 ≤ a + i), decide_eq_false (by omega : ¬ 4 ≤ a)]; rfl) | (rw [decide_eq_true (by omega : 4 ≤ a + i), decide_eq_true (by omega : 4 ≤ a), decide_eq_true (by omega : a + i < 8), decide_eq_true (by omega : a < 8)]) | (rw [decide_eq_false (by omega : ¬ a + i < 8), decide_eq_false (by omega : ¬ a < 8), Bool.and_false, Bool.and_false])
              have Hin2 := Lib.hid hin2
              clear hin2 pa pb hin
              have hgd := C.spl_get F a T r c2
              have hst := C.spl_set F a T r c2
              have hix0 : a + r < (C.spl F a T r ++ List.replicate z 0).length := by rw [List.length_append]; omega
              have hgd2 : (C.spl F a T r ++ List.replicate z 0).getD (a + r) 0 = F.getD (a + r) 0 := by rw [C.getD_app, if_pos (by omega), hgd]
              have k1 := blkF_bytes b1 (a + r) hix0
              have f1 := b1.free (a + r) (by rw [labA_size]; exact hix0)
              have b2 := blkF_put b1.drew (a + r) (F.getD (a + r) 0 ^^^ C.wb T r)
              rw [List.set_append_left _ _ (by omega), hst] at b2
              rw [hgd2] at k1
              have hx := (F.getD (a + r) 0).toNat_lt
              have hy := (C.wb T r).toNat_lt
              have hxor := u8_xor_nat (F.getD (a + r) 0).toNat (C.wb T r).toNat hx hy
              rw [← UInt8.toNat_xor] at hxor
              have hsh := shr8 T r
              have hw8 : IntKind.u8.wrap ((T / 256 ^ r : Nat) : Int) = ((C.wb T r).toNat : Int) := by
                rw [IntKind.wrap_u8]; unfold C.wb; rw [UInt8.toNat_ofNat']; omega
              have hml : IntKind.i64.wrap (8 * (r : Int)) = 8 * (r : Int) := IntWalk.i64_in _ (by omega)
              have hm0 : (0 : Int) ≤ 8 * (r : Int) := by omega
              have hm1 : 8 * (r : Int) ≤ 32 := by omega
              have hs1 : IntKind.i64.wrap ((a : Int) + (r : Int)) = ((a + r : Nat) : Int) := by rw [IntWalk.i64_in _ (by omega)]; omega
              generalize (F.getD (a + r) 0 ^^^ C.wb T r).toNat = Y at *
              generalize (F.getD (a + r) 0).toNat = X at *
              generalize (C.wb T r).toNat = B8 at *
              generalize T / 256 ^ r = q at *
              have hj0 : (0 : Int) ≤ ((a + r : Nat) : Int) := by omega
              have hj1 : ((a + r : Nat) : Int) < (F.length : Int) := by omega
              have Hc3 : Hid (a + (r + 1) ≤ F.length) := Lib.hid (by omega)
              clear c2 hst hgd hgd2 hix0 hlen hrF hx hy
              go_wp2
              generalize a + r = ix at *
              go_still_tail 13, (by kernel_rfl)
              change wpList _ _ _ _ _ wr.drew
              have k2 : wr.drew.cell? ⟨w1.heap.size, ix, none⟩ = some (.int .u8 (X : Int)) := k1
              have f2 : wr.drew.frozen? ⟨w1.heap.size, ix, none⟩ = false := f1
              have hB2 := hB.drew
              clear k1 f1 hB b1 hs1 hsh hw8 hxor hml hm0 hm1 hj0 hj1
              generalize wr.drew = w3 at *
              have hw1 : w.heap.size ≤ w1.heap.size := Hw1.out
              have hB3 := hB2.setCell (p := ⟨w1.heap.size, ix, none⟩) hw1 (.int .u8 (Y : Int))
              go_wp2
              exact ⟨⟨r + 1, by omega, Hc3.out, Lib.hid Hin2.out, by go_num, b2, hB3⟩, by simp [intOf]; omega⟩
            · have q1 : decide ((4 : Int) ≤ (a : Int)) = true := by first | exact decide_eq_true (by omega) | exact decide_eq_false (by omega)
              have q2 : decide ((a : Int) < 8) = true := by first | exact decide_eq_true (by omega) | exact decide_eq_false (by omega)
              have q3 : decide ((4 : Int) ≤ (a : Int) + (r : Int)) = true := by first | exact decide_eq_true (by omega) | exact decide_eq_false (by omega)
              have q4 : decide ((a : Int) + (r : Int) < 8) = false := by first | exact decide_eq_true (by omega) | exact decide_eq_false (by omega)
              have Hspoil := Lib.hid (Hsp.out a T r hr4 hrF hin.out)
              have etk : (C.spl F a T r ++ List.replicate z 0).take F.length = C.spl F a T r := by rw [← hlen]; exact List.take_left
              have hcv := conv_blkF b1 41 Try.underlying41 F.length cap (by rw [List.length_append]; omega)
              rw [etk] at hcv
              have hFb : (F.length : Int) ≤ 308 := by have := HF.out.2; omega
              clear etk hlen b1
              generalize C.spl F a T r = Bt at *
              have H5 := Lib.hid (open_any Bt)
              by_cases hbf : Bt = F
              · have dbf : (Bt == F) = true := by rw [hbf]; exact beq_self_eq_true _
                clear hbf
                go_wp2_with (first | (go_at_call 25; with_reducible refine (H5.out _).mono ?_; rintro e w5 ⟨rfl, hb5⟩; replace hB := hB.trans (hb5.mono hB.size)) | (go_at_call 21; with_reducible refine (awake_any _).mono ?_; rintro e w6 ⟨rfl, hb6⟩; replace hB := hB.trans (hb6.mono hB.size)))
                go_ret
                exact ⟨by first | rfl | simp, hB⟩
              · have dbf : (Bt == F) = false := beq_eq_false_iff_ne.2 hbf
                have hnot := Hspoil.out hbf
                clear hbf
                generalize C.opn Bt = R at H5 hnot
                obtain ⟨rt, rn, re⟩ := R
                simp only at H5 hnot
                by_cases he : re = 0
                · have dn : ((rn : Int) != (F.length : Int)) = true := by rw [bne_iff_ne]; intro e; exact hnot ⟨he, by omega⟩
                  subst he
                  clear hnot
                  go_wp2_with (first | (go_at_call 25; with_reducible refine (H5.out _).mono ?_; rintro e w5 ⟨rfl, hb5⟩; replace hB := hB.trans (hb5.mono hB.size)) | (go_at_call 21; with_reducible refine (awake_any _).mono ?_; rintro e w6 ⟨rfl, hb6⟩; replace hB := hB.trans (hb6.mono hB.size)))
                  go_ret
                  exact ⟨by first | rfl | simp, hB⟩
                · have de : ((re : Int) != 0) = true := by rw [bne_iff_ne]; omega
                  clear hnot he
                  go_wp2_with (first | (go_at_call 25; with_reducible refine (H5.out _).mono ?_; rintro e w5 ⟨rfl, hb5⟩; replace hB := hB.trans (hb5.mono hB.size)) | (go_at_call 21; with_reducible refine (awake_any _).mono ?_; rintro e w6 ⟨rfl, hb6⟩; replace hB := hB.trans (hb6.mono hB.size)))
                  go_ret
                  exact ⟨by first | rfl | simp, hB⟩
            · omega
            · omega
            · have q1 : decide ((4 : Int) ≤ (a : Int)) = true := by first | exact decide_eq_true (by omega) | exact decide_eq_false (by omega)
              have q2 : decide ((a : Int) < 8) = false := by first | exact decide_eq_true (by omega) | exact decide_eq_false (by omega)
              have q3 : decide ((4 : Int) ≤ (a : Int) + (r : Int)) = true := by first | exact decide_eq_true (by omega) | exact decide_eq_false (by omega)
              have q4 : decide ((a : Int) + (r : Int) < 8) = false := by first | exact decide_eq_true (by omega) | exact decide_eq_false (by omega)
              have hin2 : ∀ i, i < r + 1 → C.inSum (a + i) = C.inSum a := by
                intro i hi
                by_cases hir : i < r
                · exact hin.out i hir
                · obtain rfl : i = r := by omega
                  unfold C.inSum
                  first | (rw [decide_eq_false (by omega : ¬ 4 ≤ a + i), decide_eq_false (by omega : ¬ 4 ≤ a)]; rfl) | (rw [decide_eq_true (by omega : 4 ≤ a + i), decide_eq_true (by omega : 4 ≤ a), decide_eq_true (by omega : a + i < 8), decide_eq_true (by omega : a < 8)]) | (rw [decide_eq_false (by omega : ¬ a + i < 8), decide_eq_false (by omega : ¬ a < 8), Bool.and_false, Bool.and_false])
              have Hin2 := Lib.hid hin2
              clear hin2 pa pb hin
              have hgd := C.spl_get F a T r c2
              have hst := C.spl_set F a T r c2
              have hix0 : a + r < (C.spl F a T r ++ List.replicate z 0).length := by rw [List.length_append]; omega
              have hgd2 : (C.spl F a T r ++ List.replicate z 0).getD (a + r) 0 = F.getD (a + r) 0 := by rw [C.getD_app, if_pos (by omega), hgd]
              have k1 := blkF_bytes b1 (a + r) hix0
              have f1 := b1.free (a + r) (by rw [labA_size]; exact hix0)
              have b2 := blkF_put b1.drew (a + r) (F.getD (a + r) 0 ^^^ C.wb T r)
              rw [List.set_append_left _ _ (by omega), hst] at b2
              rw [hgd2] at k1
              have hx := (F.getD (a + r) 0).toNat_lt
              have hy := (C.wb T r).toNat_lt
              have hxor := u8_xor_nat (F.getD (a + r) 0).toNat (C.wb T r).toNat hx hy
              rw [← UInt8.toNat_xor] at hxor
              have hsh := shr8 T r
              have hw8 : IntKind.u8.wrap ((T / 256 ^ r : Nat) : Int) = ((C.wb T r).toNat : Int) := by
                rw [IntKind.wrap_u8]; unfold C.wb; rw [UInt8.toNat_ofNat']; omega
              have hml : IntKind.i64.wrap (8 * (r : Int)) = 8 * (r : Int) := IntWalk.i64_in _ (by omega)
              have hm0 : (0 : Int) ≤ 8 * (r : Int) := by omega
              have hm1 : 8 * (r : Int) ≤ 32 := by omega
              have hs1 : IntKind.i64.wrap ((a : Int) + (r : Int)) = ((a + r : Nat) : Int) := by rw [IntWalk.i64_in _ (by omega)]; omega
              generalize (F.getD (a + r) 0 ^^^ C.wb T r).toNat = Y at *
              generalize (F.getD (a + r) 0).toNat = X at *
              generalize (C.wb T r).toNat = B8 at *
              generalize T / 256 ^ r = q at *
              have hj0 : (0 : Int) ≤ ((a + r : Nat) : Int) := by omega
              have hj1 : ((a + r : Nat) : Int) < (F.length : Int) := by omega
              have Hc3 : Hid (a + (r + 1) ≤ F.length) := Lib.hid (by omega)
              clear c2 hst hgd hgd2 hix0 hlen hrF hx hy
              go_wp2
              generalize a + r = ix at *
              go_still_tail 13, (by kernel_rfl)
              change wpList _ _ _ _ _ wr.drew
              have k2 : wr.drew.cell? ⟨w1.heap.size, ix, none⟩ = some (.int .u8 (X : Int)) := k1
              have f2 : wr.drew.frozen? ⟨w1.heap.size, ix, none⟩ = false := f1
              have hB2 := hB.drew
              clear k1 f1 hB b1 hs1 hsh hw8 hxor hml hm0 hm1 hj0 hj1
              generalize wr.drew = w3 at *
              have hw1 : w.heap.size ≤ w1.heap.size := Hw1.out
              have hB3 := hB2.setCell (p := ⟨w1.heap.size, ix, none⟩) hw1 (.int .u8 (Y : Int))
              go_wp2
              exact ⟨⟨r + 1, by omega, Hc3.out, Lib.hid Hin2.out, by go_num, b2, hB3⟩, by simp [intOf]; omega⟩
          · have e1 : decide ((r : Int) < 4) = false ∨ (decide ((r : Int) < 4) = true ∧ decide ((a : Int) + (r : Int) < (F.length : Int)) = false) := by
              by_cases h4 : r < 4
              · exact .inr ⟨decide_eq_true (by omega), decide_eq_false (by omega)⟩
              · exact .inl (decide_eq_false (by omega))
            rcases e1 with e1 | ⟨e1, e2⟩
            · skip
              have Hspoil := Lib.hid (Hsp.out a T r hr4 hrF hin.out)
              have etk : (C.spl F a T r ++ List.replicate z 0).take F.length = C.spl F a T r := by rw [← hlen]; exact List.take_left
              have hcv := conv_blkF b1 41 Try.underlying41 F.length cap (by rw [List.length_append]; omega)
              rw [etk] at hcv
              have hFb : (F.length : Int) ≤ 308 := by have := HF.out.2; omega
              clear etk hlen b1
              generalize C.spl F a T r = Bt at *
              have H5 := Lib.hid (open_any Bt)
              by_cases hbf : Bt = F
              · have dbf : (Bt == F) = true := by rw [hbf]; exact beq_self_eq_true _
                clear hbf
                go_wp2_with (first | (go_at_call 25; with_reducible refine (H5.out _).mono ?_; rintro e w5 ⟨rfl, hb5⟩; replace hB := hB.trans (hb5.mono hB.size)) | (go_at_call 21; with_reducible refine (awake_any _).mono ?_; rintro e w6 ⟨rfl, hb6⟩; replace hB := hB.trans (hb6.mono hB.size)))
                go_ret
                exact ⟨by first | rfl | simp, hB⟩
              · have dbf : (Bt == F) = false := beq_eq_false_iff_ne.2 hbf
                have hnot := Hspoil.out hbf
                clear hbf
                generalize C.opn Bt = R at H5 hnot
                obtain ⟨rt, rn, re⟩ := R
                simp only at H5 hnot
                by_cases he : re = 0
                · have dn : ((rn : Int) != (F.length : Int)) = true := by rw [bne_iff_ne]; intro e; exact hnot ⟨he, by omega⟩
                  subst he
                  clear hnot
                  go_wp2_with (first | (go_at_call 25; with_reducible refine (H5.out _).mono ?_; rintro e w5 ⟨rfl, hb5⟩; replace hB := hB.trans (hb5.mono hB.size)) | (go_at_call 21; with_reducible refine (awake_any _).mono ?_; rintro e w6 ⟨rfl, hb6⟩; replace hB := hB.trans (hb6.mono hB.size)))
                  go_ret
                  exact ⟨by first | rfl | simp, hB⟩
                · have de : ((re : Int) != 0) = true := by rw [bne_iff_ne]; omega
                  clear hnot he
                  go_wp2_with (first | (go_at_call 25; with_reducible refine (H5.out _).mono ?_; rintro e w5 ⟨rfl, hb5⟩; replace hB := hB.trans (hb5.mono hB.size)) | (go_at_call 21; with_reducible refine (awake_any _).mono ?_; rintro e w6 ⟨rfl, hb6⟩; replace hB := hB.trans (hb6.mono hB.size)))
                  go_ret
                  exact ⟨by first | rfl | simp, hB⟩
            · skip
              have Hspoil := Lib.hid (Hsp.out a T r hr4 hrF hin.out)
              have etk : (C.spl F a T r ++ List.replicate z 0).take F.length = C.spl F a T r := by rw [← hlen]; exact List.take_left
              have hcv := conv_blkF b1 41 Try.underlying41 F.length cap (by rw [List.length_append]; omega)
              rw [etk] at hcv
              have hFb : (F.length : Int) ≤ 308 := by have := HF.out.2; omega
              clear etk hlen b1
              generalize C.spl F a T r = Bt at *
              have H5 := Lib.hid (open_any Bt)
              by_cases hbf : Bt = F
              · have dbf : (Bt == F) = true := by rw [hbf]; exact beq_self_eq_true _
                clear hbf
                go_wp2_with (first | (go_at_call 25; with_reducible refine (H5.out _).mono ?_; rintro e w5 ⟨rfl, hb5⟩; replace hB := hB.trans (hb5.mono hB.size)) | (go_at_call 21; with_reducible refine (awake_any _).mono ?_; rintro e w6 ⟨rfl, hb6⟩; replace hB := hB.trans (hb6.mono hB.size)))
                go_ret
                exact ⟨by first | rfl | simp, hB⟩
              · have dbf : (Bt == F) = false := beq_eq_false_iff_ne.2 hbf
                have hnot := Hspoil.out hbf
                clear hbf
                generalize C.opn Bt = R at H5 hnot
                obtain ⟨rt, rn, re⟩ := R
                simp only at H5 hnot
                by_cases he : re = 0
                · have dn : ((rn : Int) != (F.length : Int)) = true := by rw [bne_iff_ne]; intro e; exact hnot ⟨he, by omega⟩
                  subst he
                  clear hnot
                  go_wp2_with (first | (go_at_call 25; with_reducible refine (H5.out _).mono ?_; rintro e w5 ⟨rfl, hb5⟩; replace hB := hB.trans (hb5.mono hB.size)) | (go_at_call 21; with_reducible refine (awake_any _).mono ?_; rintro e w6 ⟨rfl, hb6⟩; replace hB := hB.trans (hb6.mono hB.size)))
                  go_ret
                  exact ⟨by first | rfl | simp, hB⟩
                · have de : ((re : Int) != 0) = true := by rw [bne_iff_ne]; omega
                  clear hnot he
                  go_wp2_with (first | (go_at_call 25; with_reducible refine (H5.out _).mono ?_; rintro e w5 ⟨rfl, hb5⟩; replace hB := hB.trans (hb5.mono hB.size)) | (go_at_call 21; with_reducible refine (awake_any _).mono ?_; rintro e w6 ⟨rfl, hb6⟩; replace hB := hB.trans (hb6.mono hB.size)))
                  go_ret
                  exact ⟨by first | rfl | simp, hB⟩
set_option maxRecDepth 1000000 in
theorem spoilt_law : LawHolds 6 Try.f6 := by
  intro H enc W base args ds p hval hA
  rw [Try.params6] at hA hval
  obtain ⟨v0, vs0, d0, ds0, p0, q0, hargs, rfl, rfl, k0, r0⟩ := trodAll_cons hA
  obtain ⟨v1, vs1, d1, ds1, p1, q1, rfl, rfl, rfl, k1, r1⟩ := trodAll_cons r0
  obtain ⟨v2, vs2, d2, ds2, p2, q2, rfl, rfl, rfl, k2, r2⟩ := trodAll_cons r1
  obtain ⟨rfl, rfl, rfl⟩ := trodAll_nil r2
  obtain rfl : args = #[v0, v1, v2] := by cases args; simp_all
  obtain ⟨l, rfl, _⟩ := open_text (hval 0 9 v0 rfl rfl) k0
  obtain ⟨m, rfl, _, _, _⟩ := open_int Try.underlying3 (hval 1 3 v1 rfl rfl) k1
  obtain ⟨n, rfl, _, _, hwf⟩ := open_int Try.underlying27 (hval 2 27 v2 rfl rfl) k2
  have hb : 0 ≤ n ∧ n ≤ 4294967295 := by
    simp only [Lit.wf, IntKind.min, IntKind.max, IntKind.signed, IntKind.bits, Bool.and_eq_true] at hwf
    simp at hwf; omega
  obtain ⟨T, rfl⟩ := Int.eq_ofNat_of_zero_le hb.1
  exact spoilt_walk l m T (by omega) W

theorem spoilt_lifted (os : Os) (started : os.Started) (H : Type) (enc : TypeId × Value → H) :
    ReturnsInHanded {} Try.checked os 6 .any (Rows.sealSpoiltSpec.pre6 enc Try.prog Try.f6 Rows.sealSpoiltRow.domain false) (Rows.sealSpoiltSpec.post enc Try.prog Try.f6 false true false false) :=
  lifted_of started (by kernel_rfl) Try.func6
    (ChangeSpec.witness6 (enc := enc) (C := Try.checked) false ⟨#[], #[.string ⟨#[]⟩, .int .i64 0, .int .u32 0], []⟩ 8 (by kernel_rfl) (by kernel_rfl) (by kernel_rfl) (by kernel_rfl))
    rfl (by kernel_rfl) (fun ds h => by rw [Try.params6] at h; match ds, h with | [_, _, _], _ => rfl) (by rw [Try.params6]; exact of_decide_eq_true (by kernel_rfl)) spoilt_law
theorem spoilt_over : Rows.sealSpoiltRow.holds Try.pinned (OpenSpec.ofChange Rows.sealSpoiltSpec) :=
  OpenClaim.holds_of_wide 6 Try.f6 rfl rfl rfl rfl rfl rfl rfl ⟨rfl, rfl, rfl, rfl, rfl⟩ rfl rfl rfl rfl rfl (by kernel_rfl) Try.func6 (by kernel_rfl)
    (of_decide_eq_true (by kernel_rfl)) (by unfold Func.isWrapper; first | (rw [if_pos (by decide +kernel)]; kernel_rfl) | (rw [if_neg (by decide +kernel)]; exact ⟨rfl, rfl⟩))
    (fun os started H enc _ => spoilt_lifted os started H enc)
/-- The statement. -/
theorem spoilt_proved : Rows.SealSpoiltSaid := spoilt_over
#print axioms spoilt_proved
end Go.Proofs.Ytknkbioalohofaa

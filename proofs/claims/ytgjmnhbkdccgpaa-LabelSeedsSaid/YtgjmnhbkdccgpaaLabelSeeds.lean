/- LabelSeeds: seeds are made and checked. No condition. -/
import Derived.Test.YtgjmnhbkdccgpaaWLAwake
import Derived.Test.YtgjmnhbkdccgpaaWRB14
import Derived.Test.YtgjmnhbkdccgpaaOpenL
namespace Go.Proofs.Ytgjmnhbkdccgpaa
open Go.ChangeShapes Go.WideShapes Go.ChangeAt Go.RowKit

theorem beq_symm (a b : List UInt8) : (a == b) = (b == a) := by
  by_cases h : a = b
  · subst h; rfl
  · rw [beq_eq_false_iff_ne.2 h, beq_eq_false_iff_ne.2 (Ne.symm h)]
set_option maxRecDepth 100000 in
set_option maxHeartbeats 2000000 in
theorem seeds_walk (key0 id0 : List UInt8) (v : Int) (p s : List UInt8) (hp : p.length = 32) (hs : s.length = 32) (w : World) :
    Calls Try.prog 9 #[.string ⟨key0.toArray⟩, .string ⟨id0.toArray⟩, .int .i64 v, .agg (labA p), .agg (labA s)] w fun e w' => e = .returned (.bool true) ∧ Below w.heap.size w w' := by
  have h0 := lcut_any key0 100
  have h00 := lcut_any id0 200
  rw [show ((100 : Nat) : Int) = 100 from rfl] at h0
  rw [show ((200 : Nat) : Int) = 200 from rfl] at h00
  have hk : (key0.take 100).length ≤ 100 := by rw [List.length_take]; omega
  have hi : (id0.take 200).length ≤ 200 := by rw [List.length_take]; omega
  generalize key0.take 100 = key at h0 hk
  generalize id0.take 200 = id at h00 hi
  have H0 := Lib.hid h0
  have H00 := Lib.hid h00
  clear h0 h00
  have SS := Lib.hid (fun W => seed_any key id v (by omega) (by omega) W)
  have EE := Lib.hid (fun W => r14err_any key id (by omega) (by omega) v W)
  have GG := Lib.hid (fun W => good_any key W)
  have CC := Lib.hid (fun W => lcheck_any p key id v s hp hs (by omega) (by omega) W)
  have hx := L.seed_length key id v
  have hB : Below w.heap.size w w := Below.refl _ _
  have b0 : Blk (w.alloc (.cells (labA p) 25)) w.heap.size (labA p) 25 := Blk.new _ _ _
  have b1 : Blk ((w.alloc (.cells (labA p) 25)).alloc (.cells (labA s) 25)) (w.heap.size + 1) (labA s) 25 := blk_new1 _ _ _ _
  have b0 := b0.alloc (.cells (labA s) 25)
  have hB := (below_alloc1 w (.cells (labA p) 25)).alloc (o := .cells (labA s) 25) (by simp)
  have hS2 : w.heap.size + 2 ≤ ((w.alloc (.cells (labA p) 25)).alloc (.cells (labA s) 25)).heap.size := by simp
  by_cases he : L.err key id v = 0
  · have hgood : L.good key = true := by
      cases hg : L.good key with
      | true => rfl
      | false => unfold L.err at he; rw [hg] at he; simp at he
    have hl : 1 ≤ key.length ∧ key.length ≤ 64 := by
      unfold L.good at hgood
      simpa using hgood
    have hv := L.errT_zero (show L.errT id v = 0 by unfold L.err at he; rw [hgood] at he; exact he)
    have hseed : S.mac key (L.text id v) = L.seed key id v := by unfold L.seed; rw [he]; rfl
    have hck : L.chk p key id v s = ((L.seed key id v == s) && (L.pub key == p)) := by unfold L.chk; rw [he]; rfl
    have hcq : L.chk (L.pub key) key id v (L.seed key id v) = true := by unfold L.chk; rw [he, beq_self_eq_true, beq_self_eq_true]; rfl
    have hq : (L.pub key).length = 32 := S.sum_length _
    have CQ := Lib.hid (fun W => lcheck_any (L.pub key) key id v (L.seed key id v) hq hx (by omega) (by omega) W)
    have PP := Lib.hid (fun W => public_any key (by omega) W)
    obtain ⟨n, hn⟩ := Int.eq_ofNat_of_zero_le hv.1
    have TT := Lib.hid (fun W => r14text_any id (by omega) n (by omega) W)
    rw [← hn] at TT
    have hT := L.text_length id v (by omega) hv.2
    have MM := Lib.hid (fun W => mac_any key (L.text id v) W (by omega) (by omega))
    rw [hseed] at MM
    have RB := Lib.hid (fun v2 W (h : Strs W v2 [key]) => r14bytes_lit 1 1 rfl [] [key] (.slice none 0 0) v2 W (.inl ⟨rfl, rfl⟩) h (by rw [List.nil_append, joinB1_len]; omega))
    have SQ := Lib.hid (fun W => sum_any (J.joinB 1 [key]) W (by rw [joinB1_len]; omega))
    rw [show S.sum (J.joinB 1 [key]) = L.pub key from rfl] at SQ
    rw [show J.joinB 1 ([] ++ [key]) = J.joinB 1 [key] from rfl] at RB
    rw [hcq] at CQ
    rw [hck, beq_symm (L.seed key id v) s, beq_symm (L.pub key) p] at CC
    rw [he, show ((0 : Nat) : Int) = 0 from rfl] at SS EE
    rw [hgood] at GG
    have d1 : decide ((1 : Int) ≤ (key.length : Int)) = true := by simp; omega
    have d2 : decide ((key.length : Int) ≤ 64) = true := by simp; omega
    have d1' : decide (1 ≤ key.length) = true := by simp; omega
    have d2' : decide (key.length ≤ 64) = true := by simp; omega
    have d1'' : decide (0 < key.length) = true := by simp; omega
    generalize (⟨(J.joinB 1 [key]).toArray⟩ : ByteArray) = JB at *
    generalize (⟨(L.text id v).toArray⟩ : ByteArray) = T at *
    generalize L.pub key = q at *
    generalize L.seed key id v = x at *
    clear hseed hck hcq he hgood hl hv hn hT
    generalize (⟨id.toArray⟩ : ByteArray) = I at *
    have hxx : (x == x) = true := beq_self_eq_true x
    have hqq : (q == q) = true := beq_self_eq_true q
    go_enter Try.func9, Try.ntmps9
    go_wp2_with (first | (refine wpList_fresh (by rfl) 25 (by rfl) _ fresh_lab ?_; simp only [Act.put, List.setIfInBounds_toArray, List.set_cons_succ, List.set_cons_zero]; try simp only [World.size_alloc]) | (go_at_call 18; with_reducible refine (H0.out _).mono ?_; rintro e w0 ⟨rfl, rfl⟩) | (go_at_call 18; with_reducible refine (H00.out _).mono ?_; rintro e w0 ⟨rfl, rfl⟩) | (go_at_call 30; with_reducible refine (SS.out _).mono ?_; rintro e w3 ⟨rfl, hb1⟩; replace b0 := b0.at_ hb1; replace b1 := b1.at_ hb1; replace hB := hB.trans (hb1.mono hB.size); have hS3 := Nat.le_trans hS2 hb1.size; clear hb1) | ((refine wpList_store_blk (by rfl) 25 (.tmp 11) (.tmp 24) (by rfl) (0) (labA x) (by rfl) (by rfl) ((Blk.new w3 (labA zlab) 25)) ((by rw [labA_size, labA_size, hx]; decide)) (size_lab _ hx) (labA_all _) ?_; simp only [Act.put]); intro w9 b9 o9; rw [splice_all _ _ (by rw [labA_size, labA_size, hx]; decide)] at b9; replace b0 := (b0.alloc (.cells (labA zlab) 25)).only o9 (by have := b0.lt; omega); replace b1 := (b1.alloc (.cells (labA zlab) 25)).only o9 (by have := b1.lt; omega); replace hB := o9.below (hB.alloc hB.size _) hB.size; clear o9) | (go_at_call 31; with_reducible refine (EE.out _).mono ?_; rintro e w4 ⟨rfl, hb1⟩; replace b0 := b0.at_ hb1; replace b1 := b1.at_ hb1; replace b9 := b9.at_ hb1; replace hB := hB.trans (hb1.mono hB.size); clear hb1) | (go_at_call 32; with_reducible refine (lawake_any _).mono ?_; rintro e w5 ⟨rfl, hb1⟩; replace b0 := b0.at_ hb1; replace b1 := b1.at_ hb1; replace b9 := b9.at_ hb1; replace hB := hB.trans (hb1.mono hB.size); clear hb1) | (go_at_call 33; with_reducible refine (GG.out _).mono ?_; rintro e w10 ⟨rfl, rfl⟩) | (go_at_call 35; have hq1 : Strs (w5.alloc (.cells #[.string ⟨key.toArray⟩] 9)) (.slice (some ⟨w5.heap.size, 0, none⟩) 1 1) [key] := .inr ⟨_, _, _, rfl, rfl, Blk.new _ _ _⟩; with_reducible refine (RB.out _ _ hq1).mono ?_; rintro e w6 ⟨rfl, hb1⟩; replace b0 := (b0.alloc _).at_ hb1; replace b1 := (b1.alloc _).at_ hb1; replace b9 := (b9.alloc _).at_ hb1; replace hB := (hB.alloc hB.size _).trans (hb1.mono (by have := hB.size; simp; omega)); clear hb1) | (go_at_call 20; with_reducible refine (SQ.out _).mono ?_; rintro e w7 ⟨rfl, hb1⟩; replace b0 := b0.at_ hb1; replace b1 := b1.at_ hb1; replace b9 := b9.at_ hb1; replace hB := hB.trans (hb1.mono hB.size); clear hb1) | ((refine wpList_store_blk (by rfl) 25 (.tmp 14) (.tmp 67) (by rfl) (0) (labA q) (by rfl) (by rfl) ((Blk.new w7 (labA zlab) 25)) ((by rw [labA_size, labA_size, hq]; decide)) (size_lab _ hq) (labA_all _) ?_; simp only [Act.put]); intro w8 b8 o8; rw [splice_all _ _ (by rw [labA_size, labA_size, hq]; decide)] at b8))
    have B0 := ((b0.alloc (.cells (labA zlab) 25)).only o8 (by have := b0.lt; omega)).drew
    have B1 := ((b1.alloc (.cells (labA zlab) 25)).only o8 (by have := b1.lt; omega)).drew
    have B2 := ((b9.alloc (.cells (labA zlab) 25)).only o8 (by have := b9.lt; omega)).drew
    have B3 := b8.drew
    have hB9 := o8.below (hB.alloc hB.size _) hB.size
    clear b0 b1 b8 b9 o8 hB SS EE GG H0 H00 RB SQ
    by_cases h1 : (p == q) = true
    · rw [h1] at CC
      by_cases h2 : (s == x) = true
      · rw [h2] at CC
        apply wp_region_rel_below [[(11, none)], [(0, none)], [(1, none)], [(2, none)], [(70, some 2), (71, some 3)], [(69, some 1), (72, some 4)], [(68, some 0), (73, some 5)], [(74, some 6)], [(0, none), (75, some 7)], [(76, some 8), (75, some 7)], [(14, none), (75, some 7)], [(77, some 9), (78, some 10), (75, some 7)], [(75, some 7), (79, some 11)], [(80, some 12)], [(14, none), (81, some 13)], [(0, none), (81, some 13)], [(1, none), (81, some 13)], [(2, none), (81, some 13)], [(11, none), (81, some 13)], [(82, some 14), (83, some 15), (84, some 16), (85, some 17), (86, some 18), (81, some 13)], [(81, some 13), (87, some 19)], [(88, some 20)], [(8, none), (89, some 21)], [(0, none), (89, some 21)], [(1, none), (89, some 21)], [(2, none), (89, some 21)], [(9, none), (89, some 21)], [(90, some 22), (91, some 23), (92, some 24), (93, some 25), (94, some 26), (89, some 21)], [(8, none), (89, some 21)], [(14, none), (89, some 21)], [(96, some 28), (97, some 29), (89, some 21)], [(98, some 30), (89, some 21)], [(9, none), (99, some 31)], [(11, none), (99, some 31)], [(100, some 32), (101, some 33), (99, some 31)], [(99, some 31), (102, some 34), (89, some 21)], [(95, some 27), (103, some 35), (89, some 21)], [(89, some 21), (104, some 36)], [(105, some 37)]] [eqv _, eqv _, eqv _, eqv _, eqv _, eqv _, eqv _, eqv _, eqv _, eqv _, eqv _, eqv _, eqv _, eqv _, eqv _, eqv _, eqv _, eqv _, eqv _, eqv _, eqv _, eqv _, eqv _, eqv _, eqv _, eqv _, eqv _, eqv _, eqv _, eqv _, eqv _, eqv _, eqv _, eqv _, eqv _, eqv _, eqv _, eqv _, eqv _] (by kernel_rfl) (by kernel_rfl)
        case hobs =>
          refine ⟨?_, ?_⟩
          · rintro L a1 w1 hT - - ⟨h11, -⟩   -- 0: Op.load 25 t11
            have e11 : a1.tmps.getD 11 undef = _ := h11
            have f11 := getD_form e11
            clear h11
            exact wp_load_lab (.tmp 11) rfl e11 (B2.at_ hT) hx (left_intro rfl (Stp.refl _) trivial)
          refine ⟨?_, ?_⟩
          · rintro L a1 w1 hT - - ⟨h0, -⟩   -- 1: Op.move t0
            have e0 : a1.tmps.getD 0 undef = _ := h0
            have f0 := getD_form e0
            clear h0
            go_simp; exact left_intro rfl (Stp.refl _) trivial
          refine ⟨?_, ?_⟩
          · rintro L a1 w1 hT - - ⟨h1, -⟩   -- 2: Op.move t1
            have e1 : a1.tmps.getD 1 undef = _ := h1
            have f1 := getD_form e1
            clear h1
            go_simp; exact left_intro rfl (Stp.refl _) trivial
          refine ⟨?_, ?_⟩
          · rintro L a1 w1 hT - - ⟨h2, -⟩   -- 3: Op.move t2
            have e2 : a1.tmps.getD 2 undef = _ := h2
            have f2 := getD_form e2
            clear h2
            go_simp; exact left_intro rfl (Stp.refl _) trivial
          refine ⟨?_, ?_⟩
          · rintro L a1 w1 hT - - ⟨h70, h71, -⟩   -- 4: Op.call { value (Operand.func 36), args := #[t70, t71], argTypes := #[9, 3] }
            have e70 : a1.tmps.getD 70 undef = _ := h70
            have f70 := getD_form e70
            have e71 : a1.tmps.getD 71 undef = _ := h71
            have f71 := getD_form e71
            clear h70 h71
            go_simp; go_at_call 36; (with_reducible refine (TT.out _).mono ?_); rintro e w2 ⟨rfl, hb⟩; exact left_intro rfl (Stp.of hb) trivial
          refine ⟨?_, ?_⟩
          · rintro L a1 w1 hT - - ⟨h69, h72, -⟩   -- 5: Op.call { value (Operand.func 28), args := #[t69, t72], argTypes := #[9, 9] }
            have e69 : a1.tmps.getD 69 undef = _ := h69
            have f69 := getD_form e69
            have e72 : a1.tmps.getD 72 undef = _ := h72
            have f72 := getD_form e72
            clear h69 h72
            go_simp; go_at_call 28; (with_reducible refine (MM.out _).mono ?_); rintro e w2 ⟨rfl, hb⟩; exact left_intro rfl (Stp.of hb) trivial
          refine ⟨?_, ?_⟩
          · rintro L a1 w1 hT - - ⟨h68, h73, -⟩   -- 6: Op.binOp BinOp.eql 25 t68 t73 25
            have e68 : a1.tmps.getD 68 undef = _ := h68
            have f68 := getD_form e68
            have e73 : a1.tmps.getD 73 undef = _ := h73
            have f73 := getD_form e73
            clear h68 h73
            exact wp_bin .eql 25 25 (.tmp 68) (.tmp 73) rfl _ _ e68 e73 guard_lab _ ((eql_lab _ _ (by assumption) (by assumption) _).trans (by rw [hxx])) (left_intro rfl (Stp.refl _) trivial)
          refine ⟨?_, ?_⟩
          · rintro L a1 w1 hT - - ⟨h74, -⟩   -- 7: Op.move t74
            have e74 : a1.tmps.getD 74 undef = _ := h74
            have f74 := getD_form e74
            clear h74
            go_simp; exact left_intro rfl (Stp.refl _) trivial
          refine ⟨?_, ?_⟩
          · rintro L a1 w1 hT - - ⟨h0, h75, -⟩   -- 8: Op.move t0
            have e0 : a1.tmps.getD 0 undef = _ := h0
            have f0 := getD_form e0
            have e75 : a1.tmps.getD 75 undef = _ := h75
            have f75 := getD_form e75
            clear h0 h75
            refine ⟨true, 75, by rfl, e75, ?_⟩; rw [if_pos rfl]
            go_simp; exact left_intro rfl (Stp.refl _) trivial
          refine ⟨?_, ?_⟩
          · rintro L a1 w1 hT - - ⟨h76, h75, -⟩   -- 9: Op.call { value (Operand.func 37), args := #[t76], argTypes := #[9] }
            have e76 : a1.tmps.getD 76 undef = _ := h76
            have f76 := getD_form e76
            have e75 : a1.tmps.getD 75 undef = _ := h75
            have f75 := getD_form e75
            clear h76 h75
            refine ⟨true, 75, by rfl, e75, ?_⟩; rw [if_pos rfl]
            go_simp; go_at_call 37; (with_reducible refine (PP.out _).mono ?_); rintro e w2 ⟨rfl, hb⟩; exact left_intro rfl (Stp.of hb) trivial
          refine ⟨?_, ?_⟩
          · rintro L a1 w1 hT - - ⟨h14, h75, -⟩   -- 10: Op.load 25 t14
            have e14 : a1.tmps.getD 14 undef = _ := h14
            have f14 := getD_form e14
            have e75 : a1.tmps.getD 75 undef = _ := h75
            have f75 := getD_form e75
            clear h14 h75
            refine ⟨true, 75, by rfl, e75, ?_⟩; rw [if_pos rfl]
            exact wp_load_lab (.tmp 14) rfl e14 (B3.at_ hT) hq (left_intro rfl (Stp.refl _) trivial)
          refine ⟨?_, ?_⟩
          · rintro L a1 w1 hT - - ⟨h77, h78, h75, -⟩   -- 11: Op.binOp BinOp.eql 25 t77 t78 25
            have e77 : a1.tmps.getD 77 undef = _ := h77
            have f77 := getD_form e77
            have e78 : a1.tmps.getD 78 undef = _ := h78
            have f78 := getD_form e78
            have e75 : a1.tmps.getD 75 undef = _ := h75
            have f75 := getD_form e75
            clear h77 h78 h75
            refine ⟨true, 75, by rfl, e75, ?_⟩; rw [if_pos rfl]
            exact wp_bin .eql 25 25 (.tmp 77) (.tmp 78) rfl _ _ e77 e78 guard_lab _ ((eql_lab _ _ (by assumption) (by assumption) _).trans (by rw [hqq])) (left_intro rfl (Stp.refl _) trivial)
          refine ⟨?_, ?_⟩
          · rintro L a1 w1 hT - - ⟨h75, h79, -⟩   -- 12: Op.pick t75 t79 (const (Value.bool false))
            have e75 : a1.tmps.getD 75 undef = _ := h75
            have f75 := getD_form e75
            have e79 : a1.tmps.getD 79 undef = _ := h79
            have f79 := getD_form e79
            clear h75 h79
            go_simp; exact left_intro rfl (Stp.refl _) trivial
          refine ⟨?_, ?_⟩
          · rintro L a1 w1 hT - - ⟨h80, -⟩   -- 13: Op.move t80
            have e80 : a1.tmps.getD 80 undef = _ := h80
            have f80 := getD_form e80
            clear h80
            go_simp; exact left_intro rfl (Stp.refl _) trivial
          refine ⟨?_, ?_⟩
          · rintro L a1 w1 hT - - ⟨h14, h81, -⟩   -- 14: Op.load 25 t14
            have e14 : a1.tmps.getD 14 undef = _ := h14
            have f14 := getD_form e14
            have e81 : a1.tmps.getD 81 undef = _ := h81
            have f81 := getD_form e81
            clear h14 h81
            refine ⟨true, 81, by rfl, e81, ?_⟩; rw [if_pos rfl]
            exact wp_load_lab (.tmp 14) rfl e14 (B3.at_ hT) hq (left_intro rfl (Stp.refl _) trivial)
          refine ⟨?_, ?_⟩
          · rintro L a1 w1 hT - - ⟨h0, h81, -⟩   -- 15: Op.move t0
            have e0 : a1.tmps.getD 0 undef = _ := h0
            have f0 := getD_form e0
            have e81 : a1.tmps.getD 81 undef = _ := h81
            have f81 := getD_form e81
            clear h0 h81
            refine ⟨true, 81, by rfl, e81, ?_⟩; rw [if_pos rfl]
            go_simp; exact left_intro rfl (Stp.refl _) trivial
          refine ⟨?_, ?_⟩
          · rintro L a1 w1 hT - - ⟨h1, h81, -⟩   -- 16: Op.move t1
            have e1 : a1.tmps.getD 1 undef = _ := h1
            have f1 := getD_form e1
            have e81 : a1.tmps.getD 81 undef = _ := h81
            have f81 := getD_form e81
            clear h1 h81
            refine ⟨true, 81, by rfl, e81, ?_⟩; rw [if_pos rfl]
            go_simp; exact left_intro rfl (Stp.refl _) trivial
          refine ⟨?_, ?_⟩
          · rintro L a1 w1 hT - - ⟨h2, h81, -⟩   -- 17: Op.move t2
            have e2 : a1.tmps.getD 2 undef = _ := h2
            have f2 := getD_form e2
            have e81 : a1.tmps.getD 81 undef = _ := h81
            have f81 := getD_form e81
            clear h2 h81
            refine ⟨true, 81, by rfl, e81, ?_⟩; rw [if_pos rfl]
            go_simp; exact left_intro rfl (Stp.refl _) trivial
          refine ⟨?_, ?_⟩
          · rintro L a1 w1 hT - - ⟨h11, h81, -⟩   -- 18: Op.load 25 t11
            have e11 : a1.tmps.getD 11 undef = _ := h11
            have f11 := getD_form e11
            have e81 : a1.tmps.getD 81 undef = _ := h81
            have f81 := getD_form e81
            clear h11 h81
            refine ⟨true, 81, by rfl, e81, ?_⟩; rw [if_pos rfl]
            exact wp_load_lab (.tmp 11) rfl e11 (B2.at_ hT) hx (left_intro rfl (Stp.refl _) trivial)
          refine ⟨?_, ?_⟩
          · rintro L a1 w1 hT - - ⟨h82, h83, h84, h85, h86, h81, -⟩   -- 19: Op.call { value (Operand.func 34), args := #[t82, t83, t84, t85, t86], argTypes := #[25, 9
            have e82 : a1.tmps.getD 82 undef = _ := h82
            have f82 := getD_form e82
            have e83 : a1.tmps.getD 83 undef = _ := h83
            have f83 := getD_form e83
            have e84 : a1.tmps.getD 84 undef = _ := h84
            have f84 := getD_form e84
            have e85 : a1.tmps.getD 85 undef = _ := h85
            have f85 := getD_form e85
            have e86 : a1.tmps.getD 86 undef = _ := h86
            have f86 := getD_form e86
            have e81 : a1.tmps.getD 81 undef = _ := h81
            have f81 := getD_form e81
            clear h82 h83 h84 h85 h86 h81
            refine ⟨true, 81, by rfl, e81, ?_⟩; rw [if_pos rfl]
            go_simp; go_at_call 34; (with_reducible refine (CQ.out _).mono ?_); rintro e w2 ⟨rfl, hb⟩; exact left_intro rfl (Stp.of hb) trivial
          refine ⟨?_, ?_⟩
          · rintro L a1 w1 hT - - ⟨h81, h87, -⟩   -- 20: Op.pick t81 t87 (const (Value.bool false))
            have e81 : a1.tmps.getD 81 undef = _ := h81
            have f81 := getD_form e81
            have e87 : a1.tmps.getD 87 undef = _ := h87
            have f87 := getD_form e87
            clear h81 h87
            go_simp; exact left_intro rfl (Stp.refl _) trivial
          refine ⟨?_, ?_⟩
          · rintro L a1 w1 hT - - ⟨h88, -⟩   -- 21: Op.move t88
            have e88 : a1.tmps.getD 88 undef = _ := h88
            have f88 := getD_form e88
            clear h88
            go_simp; exact left_intro rfl (Stp.refl _) trivial
          refine ⟨?_, ?_⟩
          · rintro L a1 w1 hT - - ⟨h8, h89, -⟩   -- 22: Op.load 25 t8
            have e8 : a1.tmps.getD 8 undef = _ := h8
            have f8 := getD_form e8
            have e89 : a1.tmps.getD 89 undef = _ := h89
            have f89 := getD_form e89
            clear h8 h89
            refine ⟨true, 89, by rfl, e89, ?_⟩; rw [if_pos rfl]
            exact wp_load_lab (.tmp 8) rfl e8 (B0.at_ hT) hp (left_intro rfl (Stp.refl _) trivial)
          refine ⟨?_, ?_⟩
          · rintro L a1 w1 hT - - ⟨h0, h89, -⟩   -- 23: Op.move t0
            have e0 : a1.tmps.getD 0 undef = _ := h0
            have f0 := getD_form e0
            have e89 : a1.tmps.getD 89 undef = _ := h89
            have f89 := getD_form e89
            clear h0 h89
            refine ⟨true, 89, by rfl, e89, ?_⟩; rw [if_pos rfl]
            go_simp; exact left_intro rfl (Stp.refl _) trivial
          refine ⟨?_, ?_⟩
          · rintro L a1 w1 hT - - ⟨h1, h89, -⟩   -- 24: Op.move t1
            have e1 : a1.tmps.getD 1 undef = _ := h1
            have f1 := getD_form e1
            have e89 : a1.tmps.getD 89 undef = _ := h89
            have f89 := getD_form e89
            clear h1 h89
            refine ⟨true, 89, by rfl, e89, ?_⟩; rw [if_pos rfl]
            go_simp; exact left_intro rfl (Stp.refl _) trivial
          refine ⟨?_, ?_⟩
          · rintro L a1 w1 hT - - ⟨h2, h89, -⟩   -- 25: Op.move t2
            have e2 : a1.tmps.getD 2 undef = _ := h2
            have f2 := getD_form e2
            have e89 : a1.tmps.getD 89 undef = _ := h89
            have f89 := getD_form e89
            clear h2 h89
            refine ⟨true, 89, by rfl, e89, ?_⟩; rw [if_pos rfl]
            go_simp; exact left_intro rfl (Stp.refl _) trivial
          refine ⟨?_, ?_⟩
          · rintro L a1 w1 hT - - ⟨h9, h89, -⟩   -- 26: Op.load 25 t9
            have e9 : a1.tmps.getD 9 undef = _ := h9
            have f9 := getD_form e9
            have e89 : a1.tmps.getD 89 undef = _ := h89
            have f89 := getD_form e89
            clear h9 h89
            refine ⟨true, 89, by rfl, e89, ?_⟩; rw [if_pos rfl]
            exact wp_load_lab (.tmp 9) rfl e9 (B1.at_ hT) hs (left_intro rfl (Stp.refl _) trivial)
          refine ⟨?_, ?_⟩
          · rintro L a1 w1 hT - - ⟨h90, h91, h92, h93, h94, h89, -⟩   -- 27: Op.call { value (Operand.func 34), args := #[t90, t91, t92, t93, t94], argTypes := #[25, 9
            have e90 : a1.tmps.getD 90 undef = _ := h90
            have f90 := getD_form e90
            have e91 : a1.tmps.getD 91 undef = _ := h91
            have f91 := getD_form e91
            have e92 : a1.tmps.getD 92 undef = _ := h92
            have f92 := getD_form e92
            have e93 : a1.tmps.getD 93 undef = _ := h93
            have f93 := getD_form e93
            have e94 : a1.tmps.getD 94 undef = _ := h94
            have f94 := getD_form e94
            have e89 : a1.tmps.getD 89 undef = _ := h89
            have f89 := getD_form e89
            clear h90 h91 h92 h93 h94 h89
            refine ⟨true, 89, by rfl, e89, ?_⟩; rw [if_pos rfl]
            go_simp; go_at_call 34; (with_reducible refine (CC.out _).mono ?_); rintro e w2 ⟨rfl, hb⟩; exact left_intro rfl (Stp.of hb) trivial
          refine ⟨?_, ?_⟩
          · rintro L a1 w1 hT - - ⟨h8, h89, -⟩   -- 28: Op.load 25 t8
            have e8 : a1.tmps.getD 8 undef = _ := h8
            have f8 := getD_form e8
            have e89 : a1.tmps.getD 89 undef = _ := h89
            have f89 := getD_form e89
            clear h8 h89
            refine ⟨true, 89, by rfl, e89, ?_⟩; rw [if_pos rfl]
            exact wp_load_lab (.tmp 8) rfl e8 (B0.at_ hT) hp (left_intro rfl (Stp.refl _) trivial)
          refine ⟨?_, ?_⟩
          · rintro L a1 w1 hT - - ⟨h14, h89, -⟩   -- 29: Op.load 25 t14
            have e14 : a1.tmps.getD 14 undef = _ := h14
            have f14 := getD_form e14
            have e89 : a1.tmps.getD 89 undef = _ := h89
            have f89 := getD_form e89
            clear h14 h89
            refine ⟨true, 89, by rfl, e89, ?_⟩; rw [if_pos rfl]
            exact wp_load_lab (.tmp 14) rfl e14 (B3.at_ hT) hq (left_intro rfl (Stp.refl _) trivial)
          refine ⟨?_, ?_⟩
          · rintro L a1 w1 hT - - ⟨h96, h97, h89, -⟩   -- 30: Op.binOp BinOp.eql 25 t96 t97 25
            have e96 : a1.tmps.getD 96 undef = _ := h96
            have f96 := getD_form e96
            have e97 : a1.tmps.getD 97 undef = _ := h97
            have f97 := getD_form e97
            have e89 : a1.tmps.getD 89 undef = _ := h89
            have f89 := getD_form e89
            clear h96 h97 h89
            refine ⟨true, 89, by rfl, e89, ?_⟩; rw [if_pos rfl]
            exact wp_bin .eql 25 25 (.tmp 96) (.tmp 97) rfl _ _ e96 e97 guard_lab _ ((eql_lab _ _ (by assumption) (by assumption) _).trans (by rw [h1])) (left_intro rfl (Stp.refl _) trivial)
          refine ⟨?_, ?_⟩
          · rintro L a1 w1 hT - - ⟨h98, h89, -⟩   -- 31: Op.move t98
            have e98 : a1.tmps.getD 98 undef = _ := h98
            have f98 := getD_form e98
            have e89 : a1.tmps.getD 89 undef = _ := h89
            have f89 := getD_form e89
            clear h98 h89
            refine ⟨true, 89, by rfl, e89, ?_⟩; rw [if_pos rfl]
            go_simp; exact left_intro rfl (Stp.refl _) trivial
          refine ⟨?_, ?_⟩
          · rintro L a1 w1 hT - - ⟨h9, h99, -⟩   -- 32: Op.load 25 t9
            have e9 : a1.tmps.getD 9 undef = _ := h9
            have f9 := getD_form e9
            have e99 : a1.tmps.getD 99 undef = _ := h99
            have f99 := getD_form e99
            clear h9 h99
            refine ⟨true, 99, by rfl, e99, ?_⟩; rw [if_pos rfl]
            exact wp_load_lab (.tmp 9) rfl e9 (B1.at_ hT) hs (left_intro rfl (Stp.refl _) trivial)
          refine ⟨?_, ?_⟩
          · rintro L a1 w1 hT - - ⟨h11, h99, -⟩   -- 33: Op.load 25 t11
            have e11 : a1.tmps.getD 11 undef = _ := h11
            have f11 := getD_form e11
            have e99 : a1.tmps.getD 99 undef = _ := h99
            have f99 := getD_form e99
            clear h11 h99
            refine ⟨true, 99, by rfl, e99, ?_⟩; rw [if_pos rfl]
            exact wp_load_lab (.tmp 11) rfl e11 (B2.at_ hT) hx (left_intro rfl (Stp.refl _) trivial)
          refine ⟨?_, ?_⟩
          · rintro L a1 w1 hT - - ⟨h100, h101, h99, -⟩   -- 34: Op.binOp BinOp.eql 25 t100 t101 25
            have e100 : a1.tmps.getD 100 undef = _ := h100
            have f100 := getD_form e100
            have e101 : a1.tmps.getD 101 undef = _ := h101
            have f101 := getD_form e101
            have e99 : a1.tmps.getD 99 undef = _ := h99
            have f99 := getD_form e99
            clear h100 h101 h99
            refine ⟨true, 99, by rfl, e99, ?_⟩; rw [if_pos rfl]
            exact wp_bin .eql 25 25 (.tmp 100) (.tmp 101) rfl _ _ e100 e101 guard_lab _ ((eql_lab _ _ (by assumption) (by assumption) _).trans (by rw [h2])) (left_intro rfl (Stp.refl _) trivial)
          refine ⟨?_, ?_⟩
          · rintro L a1 w1 hT - - ⟨h99, h102, h89, -⟩   -- 35: Op.pick t99 t102 (const (Value.bool false))
            have e99 : a1.tmps.getD 99 undef = _ := h99
            have f99 := getD_form e99
            have e102 : a1.tmps.getD 102 undef = _ := h102
            have f102 := getD_form e102
            have e89 : a1.tmps.getD 89 undef = _ := h89
            have f89 := getD_form e89
            clear h99 h102 h89
            refine ⟨true, 89, by rfl, e89, ?_⟩; rw [if_pos rfl]
            go_simp; exact left_intro rfl (Stp.refl _) trivial
          refine ⟨?_, ?_⟩
          · rintro L a1 w1 hT - - ⟨h95, h103, h89, -⟩   -- 36: Op.binOp BinOp.eql 4 t95 t103 4
            have e95 : a1.tmps.getD 95 undef = _ := h95
            have f95 := getD_form e95
            have e103 : a1.tmps.getD 103 undef = _ := h103
            have f103 := getD_form e103
            have e89 : a1.tmps.getD 89 undef = _ := h89
            have f89 := getD_form e89
            clear h95 h103 h89
            refine ⟨true, 89, by rfl, e89, ?_⟩; rw [if_pos rfl]
            go_simp; exact left_intro rfl (Stp.refl _) trivial
          refine ⟨?_, ?_⟩
          · rintro L a1 w1 hT - - ⟨h89, h104, -⟩   -- 37: Op.pick t89 t104 (const (Value.bool false))
            have e89 : a1.tmps.getD 89 undef = _ := h89
            have f89 := getD_form e89
            have e104 : a1.tmps.getD 104 undef = _ := h104
            have f104 := getD_form e104
            clear h89 h104
            go_simp; exact left_intro rfl (Stp.refl _) trivial
          refine ⟨?_, ?_⟩
          · rintro L a1 w1 hT - - ⟨h105, -⟩   -- 38: Op.assign t105
            have e105 : a1.tmps.getD 105 undef = _ := h105
            have f105 := getD_form e105
            clear h105
            go_simp; exact left_intro rfl (Stp.refl _) trivial
          trivial
        case hmono => repeat (first | exact trivial | refine ⟨fun _ _ _ _ h => h, ?_⟩)
        case hend =>
          intro w2 hT
          rintro _ rfl _ rfl _ rfl _ rfl _ rfl _ rfl _ rfl _ rfl _ rfl _ rfl _ rfl _ rfl _ rfl _ rfl _ rfl _ rfl _ rfl _ rfl _ rfl _ rfl _ rfl _ rfl _ rfl _ rfl _ rfl _ rfl _ rfl _ rfl _ rfl _ rfl _ rfl _ rfl _ rfl _ rfl _ rfl _ rfl _ rfl _ rfl _ rfl
          simp only [relEnd, Act.put, List.setIfInBounds_toArray, List.set_cons_succ, List.set_cons_zero]
          go_wp2
          go_ret
          exact ⟨rfl, hB9.trans (hT.mono hB9.size)⟩
      · have h2 : (s == x) = false := by simpa using h2
        rw [h2] at CC
        apply wp_region_rel_below [[(11, none)], [(0, none)], [(1, none)], [(2, none)], [(70, some 2), (71, some 3)], [(69, some 1), (72, some 4)], [(68, some 0), (73, some 5)], [(74, some 6)], [(0, none), (75, some 7)], [(76, some 8), (75, some 7)], [(14, none), (75, some 7)], [(77, some 9), (78, some 10), (75, some 7)], [(75, some 7), (79, some 11)], [(80, some 12)], [(14, none), (81, some 13)], [(0, none), (81, some 13)], [(1, none), (81, some 13)], [(2, none), (81, some 13)], [(11, none), (81, some 13)], [(82, some 14), (83, some 15), (84, some 16), (85, some 17), (86, some 18), (81, some 13)], [(81, some 13), (87, some 19)], [(88, some 20)], [(8, none), (89, some 21)], [(0, none), (89, some 21)], [(1, none), (89, some 21)], [(2, none), (89, some 21)], [(9, none), (89, some 21)], [(90, some 22), (91, some 23), (92, some 24), (93, some 25), (94, some 26), (89, some 21)], [(8, none), (89, some 21)], [(14, none), (89, some 21)], [(96, some 28), (97, some 29), (89, some 21)], [(98, some 30), (89, some 21)], [(9, none), (99, some 31)], [(11, none), (99, some 31)], [(100, some 32), (101, some 33), (99, some 31)], [(99, some 31), (102, some 34), (89, some 21)], [(95, some 27), (103, some 35), (89, some 21)], [(89, some 21), (104, some 36)], [(105, some 37)]] [eqv _, eqv _, eqv _, eqv _, eqv _, eqv _, eqv _, eqv _, eqv _, eqv _, eqv _, eqv _, eqv _, eqv _, eqv _, eqv _, eqv _, eqv _, eqv _, eqv _, eqv _, eqv _, eqv _, eqv _, eqv _, eqv _, eqv _, eqv _, eqv _, eqv _, eqv _, eqv _, eqv _, eqv _, eqv _, eqv _, eqv _, eqv _, eqv _] (by kernel_rfl) (by kernel_rfl)
        case hobs =>
          refine ⟨?_, ?_⟩
          · rintro L a1 w1 hT - - ⟨h11, -⟩   -- 0: Op.load 25 t11
            have e11 : a1.tmps.getD 11 undef = _ := h11
            have f11 := getD_form e11
            clear h11
            exact wp_load_lab (.tmp 11) rfl e11 (B2.at_ hT) hx (left_intro rfl (Stp.refl _) trivial)
          refine ⟨?_, ?_⟩
          · rintro L a1 w1 hT - - ⟨h0, -⟩   -- 1: Op.move t0
            have e0 : a1.tmps.getD 0 undef = _ := h0
            have f0 := getD_form e0
            clear h0
            go_simp; exact left_intro rfl (Stp.refl _) trivial
          refine ⟨?_, ?_⟩
          · rintro L a1 w1 hT - - ⟨h1, -⟩   -- 2: Op.move t1
            have e1 : a1.tmps.getD 1 undef = _ := h1
            have f1 := getD_form e1
            clear h1
            go_simp; exact left_intro rfl (Stp.refl _) trivial
          refine ⟨?_, ?_⟩
          · rintro L a1 w1 hT - - ⟨h2, -⟩   -- 3: Op.move t2
            have e2 : a1.tmps.getD 2 undef = _ := h2
            have f2 := getD_form e2
            clear h2
            go_simp; exact left_intro rfl (Stp.refl _) trivial
          refine ⟨?_, ?_⟩
          · rintro L a1 w1 hT - - ⟨h70, h71, -⟩   -- 4: Op.call { value (Operand.func 36), args := #[t70, t71], argTypes := #[9, 3] }
            have e70 : a1.tmps.getD 70 undef = _ := h70
            have f70 := getD_form e70
            have e71 : a1.tmps.getD 71 undef = _ := h71
            have f71 := getD_form e71
            clear h70 h71
            go_simp; go_at_call 36; (with_reducible refine (TT.out _).mono ?_); rintro e w2 ⟨rfl, hb⟩; exact left_intro rfl (Stp.of hb) trivial
          refine ⟨?_, ?_⟩
          · rintro L a1 w1 hT - - ⟨h69, h72, -⟩   -- 5: Op.call { value (Operand.func 28), args := #[t69, t72], argTypes := #[9, 9] }
            have e69 : a1.tmps.getD 69 undef = _ := h69
            have f69 := getD_form e69
            have e72 : a1.tmps.getD 72 undef = _ := h72
            have f72 := getD_form e72
            clear h69 h72
            go_simp; go_at_call 28; (with_reducible refine (MM.out _).mono ?_); rintro e w2 ⟨rfl, hb⟩; exact left_intro rfl (Stp.of hb) trivial
          refine ⟨?_, ?_⟩
          · rintro L a1 w1 hT - - ⟨h68, h73, -⟩   -- 6: Op.binOp BinOp.eql 25 t68 t73 25
            have e68 : a1.tmps.getD 68 undef = _ := h68
            have f68 := getD_form e68
            have e73 : a1.tmps.getD 73 undef = _ := h73
            have f73 := getD_form e73
            clear h68 h73
            exact wp_bin .eql 25 25 (.tmp 68) (.tmp 73) rfl _ _ e68 e73 guard_lab _ ((eql_lab _ _ (by assumption) (by assumption) _).trans (by rw [hxx])) (left_intro rfl (Stp.refl _) trivial)
          refine ⟨?_, ?_⟩
          · rintro L a1 w1 hT - - ⟨h74, -⟩   -- 7: Op.move t74
            have e74 : a1.tmps.getD 74 undef = _ := h74
            have f74 := getD_form e74
            clear h74
            go_simp; exact left_intro rfl (Stp.refl _) trivial
          refine ⟨?_, ?_⟩
          · rintro L a1 w1 hT - - ⟨h0, h75, -⟩   -- 8: Op.move t0
            have e0 : a1.tmps.getD 0 undef = _ := h0
            have f0 := getD_form e0
            have e75 : a1.tmps.getD 75 undef = _ := h75
            have f75 := getD_form e75
            clear h0 h75
            refine ⟨true, 75, by rfl, e75, ?_⟩; rw [if_pos rfl]
            go_simp; exact left_intro rfl (Stp.refl _) trivial
          refine ⟨?_, ?_⟩
          · rintro L a1 w1 hT - - ⟨h76, h75, -⟩   -- 9: Op.call { value (Operand.func 37), args := #[t76], argTypes := #[9] }
            have e76 : a1.tmps.getD 76 undef = _ := h76
            have f76 := getD_form e76
            have e75 : a1.tmps.getD 75 undef = _ := h75
            have f75 := getD_form e75
            clear h76 h75
            refine ⟨true, 75, by rfl, e75, ?_⟩; rw [if_pos rfl]
            go_simp; go_at_call 37; (with_reducible refine (PP.out _).mono ?_); rintro e w2 ⟨rfl, hb⟩; exact left_intro rfl (Stp.of hb) trivial
          refine ⟨?_, ?_⟩
          · rintro L a1 w1 hT - - ⟨h14, h75, -⟩   -- 10: Op.load 25 t14
            have e14 : a1.tmps.getD 14 undef = _ := h14
            have f14 := getD_form e14
            have e75 : a1.tmps.getD 75 undef = _ := h75
            have f75 := getD_form e75
            clear h14 h75
            refine ⟨true, 75, by rfl, e75, ?_⟩; rw [if_pos rfl]
            exact wp_load_lab (.tmp 14) rfl e14 (B3.at_ hT) hq (left_intro rfl (Stp.refl _) trivial)
          refine ⟨?_, ?_⟩
          · rintro L a1 w1 hT - - ⟨h77, h78, h75, -⟩   -- 11: Op.binOp BinOp.eql 25 t77 t78 25
            have e77 : a1.tmps.getD 77 undef = _ := h77
            have f77 := getD_form e77
            have e78 : a1.tmps.getD 78 undef = _ := h78
            have f78 := getD_form e78
            have e75 : a1.tmps.getD 75 undef = _ := h75
            have f75 := getD_form e75
            clear h77 h78 h75
            refine ⟨true, 75, by rfl, e75, ?_⟩; rw [if_pos rfl]
            exact wp_bin .eql 25 25 (.tmp 77) (.tmp 78) rfl _ _ e77 e78 guard_lab _ ((eql_lab _ _ (by assumption) (by assumption) _).trans (by rw [hqq])) (left_intro rfl (Stp.refl _) trivial)
          refine ⟨?_, ?_⟩
          · rintro L a1 w1 hT - - ⟨h75, h79, -⟩   -- 12: Op.pick t75 t79 (const (Value.bool false))
            have e75 : a1.tmps.getD 75 undef = _ := h75
            have f75 := getD_form e75
            have e79 : a1.tmps.getD 79 undef = _ := h79
            have f79 := getD_form e79
            clear h75 h79
            go_simp; exact left_intro rfl (Stp.refl _) trivial
          refine ⟨?_, ?_⟩
          · rintro L a1 w1 hT - - ⟨h80, -⟩   -- 13: Op.move t80
            have e80 : a1.tmps.getD 80 undef = _ := h80
            have f80 := getD_form e80
            clear h80
            go_simp; exact left_intro rfl (Stp.refl _) trivial
          refine ⟨?_, ?_⟩
          · rintro L a1 w1 hT - - ⟨h14, h81, -⟩   -- 14: Op.load 25 t14
            have e14 : a1.tmps.getD 14 undef = _ := h14
            have f14 := getD_form e14
            have e81 : a1.tmps.getD 81 undef = _ := h81
            have f81 := getD_form e81
            clear h14 h81
            refine ⟨true, 81, by rfl, e81, ?_⟩; rw [if_pos rfl]
            exact wp_load_lab (.tmp 14) rfl e14 (B3.at_ hT) hq (left_intro rfl (Stp.refl _) trivial)
          refine ⟨?_, ?_⟩
          · rintro L a1 w1 hT - - ⟨h0, h81, -⟩   -- 15: Op.move t0
            have e0 : a1.tmps.getD 0 undef = _ := h0
            have f0 := getD_form e0
            have e81 : a1.tmps.getD 81 undef = _ := h81
            have f81 := getD_form e81
            clear h0 h81
            refine ⟨true, 81, by rfl, e81, ?_⟩; rw [if_pos rfl]
            go_simp; exact left_intro rfl (Stp.refl _) trivial
          refine ⟨?_, ?_⟩
          · rintro L a1 w1 hT - - ⟨h1, h81, -⟩   -- 16: Op.move t1
            have e1 : a1.tmps.getD 1 undef = _ := h1
            have f1 := getD_form e1
            have e81 : a1.tmps.getD 81 undef = _ := h81
            have f81 := getD_form e81
            clear h1 h81
            refine ⟨true, 81, by rfl, e81, ?_⟩; rw [if_pos rfl]
            go_simp; exact left_intro rfl (Stp.refl _) trivial
          refine ⟨?_, ?_⟩
          · rintro L a1 w1 hT - - ⟨h2, h81, -⟩   -- 17: Op.move t2
            have e2 : a1.tmps.getD 2 undef = _ := h2
            have f2 := getD_form e2
            have e81 : a1.tmps.getD 81 undef = _ := h81
            have f81 := getD_form e81
            clear h2 h81
            refine ⟨true, 81, by rfl, e81, ?_⟩; rw [if_pos rfl]
            go_simp; exact left_intro rfl (Stp.refl _) trivial
          refine ⟨?_, ?_⟩
          · rintro L a1 w1 hT - - ⟨h11, h81, -⟩   -- 18: Op.load 25 t11
            have e11 : a1.tmps.getD 11 undef = _ := h11
            have f11 := getD_form e11
            have e81 : a1.tmps.getD 81 undef = _ := h81
            have f81 := getD_form e81
            clear h11 h81
            refine ⟨true, 81, by rfl, e81, ?_⟩; rw [if_pos rfl]
            exact wp_load_lab (.tmp 11) rfl e11 (B2.at_ hT) hx (left_intro rfl (Stp.refl _) trivial)
          refine ⟨?_, ?_⟩
          · rintro L a1 w1 hT - - ⟨h82, h83, h84, h85, h86, h81, -⟩   -- 19: Op.call { value (Operand.func 34), args := #[t82, t83, t84, t85, t86], argTypes := #[25, 9
            have e82 : a1.tmps.getD 82 undef = _ := h82
            have f82 := getD_form e82
            have e83 : a1.tmps.getD 83 undef = _ := h83
            have f83 := getD_form e83
            have e84 : a1.tmps.getD 84 undef = _ := h84
            have f84 := getD_form e84
            have e85 : a1.tmps.getD 85 undef = _ := h85
            have f85 := getD_form e85
            have e86 : a1.tmps.getD 86 undef = _ := h86
            have f86 := getD_form e86
            have e81 : a1.tmps.getD 81 undef = _ := h81
            have f81 := getD_form e81
            clear h82 h83 h84 h85 h86 h81
            refine ⟨true, 81, by rfl, e81, ?_⟩; rw [if_pos rfl]
            go_simp; go_at_call 34; (with_reducible refine (CQ.out _).mono ?_); rintro e w2 ⟨rfl, hb⟩; exact left_intro rfl (Stp.of hb) trivial
          refine ⟨?_, ?_⟩
          · rintro L a1 w1 hT - - ⟨h81, h87, -⟩   -- 20: Op.pick t81 t87 (const (Value.bool false))
            have e81 : a1.tmps.getD 81 undef = _ := h81
            have f81 := getD_form e81
            have e87 : a1.tmps.getD 87 undef = _ := h87
            have f87 := getD_form e87
            clear h81 h87
            go_simp; exact left_intro rfl (Stp.refl _) trivial
          refine ⟨?_, ?_⟩
          · rintro L a1 w1 hT - - ⟨h88, -⟩   -- 21: Op.move t88
            have e88 : a1.tmps.getD 88 undef = _ := h88
            have f88 := getD_form e88
            clear h88
            go_simp; exact left_intro rfl (Stp.refl _) trivial
          refine ⟨?_, ?_⟩
          · rintro L a1 w1 hT - - ⟨h8, h89, -⟩   -- 22: Op.load 25 t8
            have e8 : a1.tmps.getD 8 undef = _ := h8
            have f8 := getD_form e8
            have e89 : a1.tmps.getD 89 undef = _ := h89
            have f89 := getD_form e89
            clear h8 h89
            refine ⟨true, 89, by rfl, e89, ?_⟩; rw [if_pos rfl]
            exact wp_load_lab (.tmp 8) rfl e8 (B0.at_ hT) hp (left_intro rfl (Stp.refl _) trivial)
          refine ⟨?_, ?_⟩
          · rintro L a1 w1 hT - - ⟨h0, h89, -⟩   -- 23: Op.move t0
            have e0 : a1.tmps.getD 0 undef = _ := h0
            have f0 := getD_form e0
            have e89 : a1.tmps.getD 89 undef = _ := h89
            have f89 := getD_form e89
            clear h0 h89
            refine ⟨true, 89, by rfl, e89, ?_⟩; rw [if_pos rfl]
            go_simp; exact left_intro rfl (Stp.refl _) trivial
          refine ⟨?_, ?_⟩
          · rintro L a1 w1 hT - - ⟨h1, h89, -⟩   -- 24: Op.move t1
            have e1 : a1.tmps.getD 1 undef = _ := h1
            have f1 := getD_form e1
            have e89 : a1.tmps.getD 89 undef = _ := h89
            have f89 := getD_form e89
            clear h1 h89
            refine ⟨true, 89, by rfl, e89, ?_⟩; rw [if_pos rfl]
            go_simp; exact left_intro rfl (Stp.refl _) trivial
          refine ⟨?_, ?_⟩
          · rintro L a1 w1 hT - - ⟨h2, h89, -⟩   -- 25: Op.move t2
            have e2 : a1.tmps.getD 2 undef = _ := h2
            have f2 := getD_form e2
            have e89 : a1.tmps.getD 89 undef = _ := h89
            have f89 := getD_form e89
            clear h2 h89
            refine ⟨true, 89, by rfl, e89, ?_⟩; rw [if_pos rfl]
            go_simp; exact left_intro rfl (Stp.refl _) trivial
          refine ⟨?_, ?_⟩
          · rintro L a1 w1 hT - - ⟨h9, h89, -⟩   -- 26: Op.load 25 t9
            have e9 : a1.tmps.getD 9 undef = _ := h9
            have f9 := getD_form e9
            have e89 : a1.tmps.getD 89 undef = _ := h89
            have f89 := getD_form e89
            clear h9 h89
            refine ⟨true, 89, by rfl, e89, ?_⟩; rw [if_pos rfl]
            exact wp_load_lab (.tmp 9) rfl e9 (B1.at_ hT) hs (left_intro rfl (Stp.refl _) trivial)
          refine ⟨?_, ?_⟩
          · rintro L a1 w1 hT - - ⟨h90, h91, h92, h93, h94, h89, -⟩   -- 27: Op.call { value (Operand.func 34), args := #[t90, t91, t92, t93, t94], argTypes := #[25, 9
            have e90 : a1.tmps.getD 90 undef = _ := h90
            have f90 := getD_form e90
            have e91 : a1.tmps.getD 91 undef = _ := h91
            have f91 := getD_form e91
            have e92 : a1.tmps.getD 92 undef = _ := h92
            have f92 := getD_form e92
            have e93 : a1.tmps.getD 93 undef = _ := h93
            have f93 := getD_form e93
            have e94 : a1.tmps.getD 94 undef = _ := h94
            have f94 := getD_form e94
            have e89 : a1.tmps.getD 89 undef = _ := h89
            have f89 := getD_form e89
            clear h90 h91 h92 h93 h94 h89
            refine ⟨true, 89, by rfl, e89, ?_⟩; rw [if_pos rfl]
            go_simp; go_at_call 34; (with_reducible refine (CC.out _).mono ?_); rintro e w2 ⟨rfl, hb⟩; exact left_intro rfl (Stp.of hb) trivial
          refine ⟨?_, ?_⟩
          · rintro L a1 w1 hT - - ⟨h8, h89, -⟩   -- 28: Op.load 25 t8
            have e8 : a1.tmps.getD 8 undef = _ := h8
            have f8 := getD_form e8
            have e89 : a1.tmps.getD 89 undef = _ := h89
            have f89 := getD_form e89
            clear h8 h89
            refine ⟨true, 89, by rfl, e89, ?_⟩; rw [if_pos rfl]
            exact wp_load_lab (.tmp 8) rfl e8 (B0.at_ hT) hp (left_intro rfl (Stp.refl _) trivial)
          refine ⟨?_, ?_⟩
          · rintro L a1 w1 hT - - ⟨h14, h89, -⟩   -- 29: Op.load 25 t14
            have e14 : a1.tmps.getD 14 undef = _ := h14
            have f14 := getD_form e14
            have e89 : a1.tmps.getD 89 undef = _ := h89
            have f89 := getD_form e89
            clear h14 h89
            refine ⟨true, 89, by rfl, e89, ?_⟩; rw [if_pos rfl]
            exact wp_load_lab (.tmp 14) rfl e14 (B3.at_ hT) hq (left_intro rfl (Stp.refl _) trivial)
          refine ⟨?_, ?_⟩
          · rintro L a1 w1 hT - - ⟨h96, h97, h89, -⟩   -- 30: Op.binOp BinOp.eql 25 t96 t97 25
            have e96 : a1.tmps.getD 96 undef = _ := h96
            have f96 := getD_form e96
            have e97 : a1.tmps.getD 97 undef = _ := h97
            have f97 := getD_form e97
            have e89 : a1.tmps.getD 89 undef = _ := h89
            have f89 := getD_form e89
            clear h96 h97 h89
            refine ⟨true, 89, by rfl, e89, ?_⟩; rw [if_pos rfl]
            exact wp_bin .eql 25 25 (.tmp 96) (.tmp 97) rfl _ _ e96 e97 guard_lab _ ((eql_lab _ _ (by assumption) (by assumption) _).trans (by rw [h1])) (left_intro rfl (Stp.refl _) trivial)
          refine ⟨?_, ?_⟩
          · rintro L a1 w1 hT - - ⟨h98, h89, -⟩   -- 31: Op.move t98
            have e98 : a1.tmps.getD 98 undef = _ := h98
            have f98 := getD_form e98
            have e89 : a1.tmps.getD 89 undef = _ := h89
            have f89 := getD_form e89
            clear h98 h89
            refine ⟨true, 89, by rfl, e89, ?_⟩; rw [if_pos rfl]
            go_simp; exact left_intro rfl (Stp.refl _) trivial
          refine ⟨?_, ?_⟩
          · rintro L a1 w1 hT - - ⟨h9, h99, -⟩   -- 32: Op.load 25 t9
            have e9 : a1.tmps.getD 9 undef = _ := h9
            have f9 := getD_form e9
            have e99 : a1.tmps.getD 99 undef = _ := h99
            have f99 := getD_form e99
            clear h9 h99
            refine ⟨true, 99, by rfl, e99, ?_⟩; rw [if_pos rfl]
            exact wp_load_lab (.tmp 9) rfl e9 (B1.at_ hT) hs (left_intro rfl (Stp.refl _) trivial)
          refine ⟨?_, ?_⟩
          · rintro L a1 w1 hT - - ⟨h11, h99, -⟩   -- 33: Op.load 25 t11
            have e11 : a1.tmps.getD 11 undef = _ := h11
            have f11 := getD_form e11
            have e99 : a1.tmps.getD 99 undef = _ := h99
            have f99 := getD_form e99
            clear h11 h99
            refine ⟨true, 99, by rfl, e99, ?_⟩; rw [if_pos rfl]
            exact wp_load_lab (.tmp 11) rfl e11 (B2.at_ hT) hx (left_intro rfl (Stp.refl _) trivial)
          refine ⟨?_, ?_⟩
          · rintro L a1 w1 hT - - ⟨h100, h101, h99, -⟩   -- 34: Op.binOp BinOp.eql 25 t100 t101 25
            have e100 : a1.tmps.getD 100 undef = _ := h100
            have f100 := getD_form e100
            have e101 : a1.tmps.getD 101 undef = _ := h101
            have f101 := getD_form e101
            have e99 : a1.tmps.getD 99 undef = _ := h99
            have f99 := getD_form e99
            clear h100 h101 h99
            refine ⟨true, 99, by rfl, e99, ?_⟩; rw [if_pos rfl]
            exact wp_bin .eql 25 25 (.tmp 100) (.tmp 101) rfl _ _ e100 e101 guard_lab _ ((eql_lab _ _ (by assumption) (by assumption) _).trans (by rw [h2])) (left_intro rfl (Stp.refl _) trivial)
          refine ⟨?_, ?_⟩
          · rintro L a1 w1 hT - - ⟨h99, h102, h89, -⟩   -- 35: Op.pick t99 t102 (const (Value.bool false))
            have e99 : a1.tmps.getD 99 undef = _ := h99
            have f99 := getD_form e99
            have e102 : a1.tmps.getD 102 undef = _ := h102
            have f102 := getD_form e102
            have e89 : a1.tmps.getD 89 undef = _ := h89
            have f89 := getD_form e89
            clear h99 h102 h89
            refine ⟨true, 89, by rfl, e89, ?_⟩; rw [if_pos rfl]
            go_simp; exact left_intro rfl (Stp.refl _) trivial
          refine ⟨?_, ?_⟩
          · rintro L a1 w1 hT - - ⟨h95, h103, h89, -⟩   -- 36: Op.binOp BinOp.eql 4 t95 t103 4
            have e95 : a1.tmps.getD 95 undef = _ := h95
            have f95 := getD_form e95
            have e103 : a1.tmps.getD 103 undef = _ := h103
            have f103 := getD_form e103
            have e89 : a1.tmps.getD 89 undef = _ := h89
            have f89 := getD_form e89
            clear h95 h103 h89
            refine ⟨true, 89, by rfl, e89, ?_⟩; rw [if_pos rfl]
            go_simp; exact left_intro rfl (Stp.refl _) trivial
          refine ⟨?_, ?_⟩
          · rintro L a1 w1 hT - - ⟨h89, h104, -⟩   -- 37: Op.pick t89 t104 (const (Value.bool false))
            have e89 : a1.tmps.getD 89 undef = _ := h89
            have f89 := getD_form e89
            have e104 : a1.tmps.getD 104 undef = _ := h104
            have f104 := getD_form e104
            clear h89 h104
            go_simp; exact left_intro rfl (Stp.refl _) trivial
          refine ⟨?_, ?_⟩
          · rintro L a1 w1 hT - - ⟨h105, -⟩   -- 38: Op.assign t105
            have e105 : a1.tmps.getD 105 undef = _ := h105
            have f105 := getD_form e105
            clear h105
            go_simp; exact left_intro rfl (Stp.refl _) trivial
          trivial
        case hmono => repeat (first | exact trivial | refine ⟨fun _ _ _ _ h => h, ?_⟩)
        case hend =>
          intro w2 hT
          rintro _ rfl _ rfl _ rfl _ rfl _ rfl _ rfl _ rfl _ rfl _ rfl _ rfl _ rfl _ rfl _ rfl _ rfl _ rfl _ rfl _ rfl _ rfl _ rfl _ rfl _ rfl _ rfl _ rfl _ rfl _ rfl _ rfl _ rfl _ rfl _ rfl _ rfl _ rfl _ rfl _ rfl _ rfl _ rfl _ rfl _ rfl _ rfl _ rfl
          simp only [relEnd, Act.put, List.setIfInBounds_toArray, List.set_cons_succ, List.set_cons_zero]
          go_wp2
          go_ret
          exact ⟨rfl, hB9.trans (hT.mono hB9.size)⟩
    · have h1 : (p == q) = false := by simpa using h1
      rw [h1, Bool.and_false] at CC
      apply wp_region_rel_below [[(11, none)], [(0, none)], [(1, none)], [(2, none)], [(70, some 2), (71, some 3)], [(69, some 1), (72, some 4)], [(68, some 0), (73, some 5)], [(74, some 6)], [(0, none), (75, some 7)], [(76, some 8), (75, some 7)], [(14, none), (75, some 7)], [(77, some 9), (78, some 10), (75, some 7)], [(75, some 7), (79, some 11)], [(80, some 12)], [(14, none), (81, some 13)], [(0, none), (81, some 13)], [(1, none), (81, some 13)], [(2, none), (81, some 13)], [(11, none), (81, some 13)], [(82, some 14), (83, some 15), (84, some 16), (85, some 17), (86, some 18), (81, some 13)], [(81, some 13), (87, some 19)], [(88, some 20)], [(8, none), (89, some 21)], [(0, none), (89, some 21)], [(1, none), (89, some 21)], [(2, none), (89, some 21)], [(9, none), (89, some 21)], [(90, some 22), (91, some 23), (92, some 24), (93, some 25), (94, some 26), (89, some 21)], [(8, none), (89, some 21)], [(14, none), (89, some 21)], [(96, some 28), (97, some 29), (89, some 21)], [(98, some 30), (89, some 21)], [(9, none), (99, some 31)], [(11, none), (99, some 31)], [(100, some 32), (101, some 33), (99, some 31)], [(99, some 31), (102, some 34), (89, some 21)], [(95, some 27), (103, some 35), (89, some 21)], [(89, some 21), (104, some 36)], [(105, some 37)]] [eqv _, eqv _, eqv _, eqv _, eqv _, eqv _, eqv _, eqv _, eqv _, eqv _, eqv _, eqv _, eqv _, eqv _, eqv _, eqv _, eqv _, eqv _, eqv _, eqv _, eqv _, eqv _, eqv _, eqv _, eqv _, eqv _, eqv _, eqv _, eqv _, eqv _, eqv _, eqv _, eqv _, eqv _, eqv _, eqv _, eqv _, eqv _, eqv _] (by kernel_rfl) (by kernel_rfl)
      case hobs =>
        refine ⟨?_, ?_⟩
        · rintro L a1 w1 hT - - ⟨h11, -⟩   -- 0: Op.load 25 t11
          have e11 : a1.tmps.getD 11 undef = _ := h11
          have f11 := getD_form e11
          clear h11
          exact wp_load_lab (.tmp 11) rfl e11 (B2.at_ hT) hx (left_intro rfl (Stp.refl _) trivial)
        refine ⟨?_, ?_⟩
        · rintro L a1 w1 hT - - ⟨h0, -⟩   -- 1: Op.move t0
          have e0 : a1.tmps.getD 0 undef = _ := h0
          have f0 := getD_form e0
          clear h0
          go_simp; exact left_intro rfl (Stp.refl _) trivial
        refine ⟨?_, ?_⟩
        · rintro L a1 w1 hT - - ⟨h1, -⟩   -- 2: Op.move t1
          have e1 : a1.tmps.getD 1 undef = _ := h1
          have f1 := getD_form e1
          clear h1
          go_simp; exact left_intro rfl (Stp.refl _) trivial
        refine ⟨?_, ?_⟩
        · rintro L a1 w1 hT - - ⟨h2, -⟩   -- 3: Op.move t2
          have e2 : a1.tmps.getD 2 undef = _ := h2
          have f2 := getD_form e2
          clear h2
          go_simp; exact left_intro rfl (Stp.refl _) trivial
        refine ⟨?_, ?_⟩
        · rintro L a1 w1 hT - - ⟨h70, h71, -⟩   -- 4: Op.call { value (Operand.func 36), args := #[t70, t71], argTypes := #[9, 3] }
          have e70 : a1.tmps.getD 70 undef = _ := h70
          have f70 := getD_form e70
          have e71 : a1.tmps.getD 71 undef = _ := h71
          have f71 := getD_form e71
          clear h70 h71
          go_simp; go_at_call 36; (with_reducible refine (TT.out _).mono ?_); rintro e w2 ⟨rfl, hb⟩; exact left_intro rfl (Stp.of hb) trivial
        refine ⟨?_, ?_⟩
        · rintro L a1 w1 hT - - ⟨h69, h72, -⟩   -- 5: Op.call { value (Operand.func 28), args := #[t69, t72], argTypes := #[9, 9] }
          have e69 : a1.tmps.getD 69 undef = _ := h69
          have f69 := getD_form e69
          have e72 : a1.tmps.getD 72 undef = _ := h72
          have f72 := getD_form e72
          clear h69 h72
          go_simp; go_at_call 28; (with_reducible refine (MM.out _).mono ?_); rintro e w2 ⟨rfl, hb⟩; exact left_intro rfl (Stp.of hb) trivial
        refine ⟨?_, ?_⟩
        · rintro L a1 w1 hT - - ⟨h68, h73, -⟩   -- 6: Op.binOp BinOp.eql 25 t68 t73 25
          have e68 : a1.tmps.getD 68 undef = _ := h68
          have f68 := getD_form e68
          have e73 : a1.tmps.getD 73 undef = _ := h73
          have f73 := getD_form e73
          clear h68 h73
          exact wp_bin .eql 25 25 (.tmp 68) (.tmp 73) rfl _ _ e68 e73 guard_lab _ ((eql_lab _ _ (by assumption) (by assumption) _).trans (by rw [hxx])) (left_intro rfl (Stp.refl _) trivial)
        refine ⟨?_, ?_⟩
        · rintro L a1 w1 hT - - ⟨h74, -⟩   -- 7: Op.move t74
          have e74 : a1.tmps.getD 74 undef = _ := h74
          have f74 := getD_form e74
          clear h74
          go_simp; exact left_intro rfl (Stp.refl _) trivial
        refine ⟨?_, ?_⟩
        · rintro L a1 w1 hT - - ⟨h0, h75, -⟩   -- 8: Op.move t0
          have e0 : a1.tmps.getD 0 undef = _ := h0
          have f0 := getD_form e0
          have e75 : a1.tmps.getD 75 undef = _ := h75
          have f75 := getD_form e75
          clear h0 h75
          refine ⟨true, 75, by rfl, e75, ?_⟩; rw [if_pos rfl]
          go_simp; exact left_intro rfl (Stp.refl _) trivial
        refine ⟨?_, ?_⟩
        · rintro L a1 w1 hT - - ⟨h76, h75, -⟩   -- 9: Op.call { value (Operand.func 37), args := #[t76], argTypes := #[9] }
          have e76 : a1.tmps.getD 76 undef = _ := h76
          have f76 := getD_form e76
          have e75 : a1.tmps.getD 75 undef = _ := h75
          have f75 := getD_form e75
          clear h76 h75
          refine ⟨true, 75, by rfl, e75, ?_⟩; rw [if_pos rfl]
          go_simp; go_at_call 37; (with_reducible refine (PP.out _).mono ?_); rintro e w2 ⟨rfl, hb⟩; exact left_intro rfl (Stp.of hb) trivial
        refine ⟨?_, ?_⟩
        · rintro L a1 w1 hT - - ⟨h14, h75, -⟩   -- 10: Op.load 25 t14
          have e14 : a1.tmps.getD 14 undef = _ := h14
          have f14 := getD_form e14
          have e75 : a1.tmps.getD 75 undef = _ := h75
          have f75 := getD_form e75
          clear h14 h75
          refine ⟨true, 75, by rfl, e75, ?_⟩; rw [if_pos rfl]
          exact wp_load_lab (.tmp 14) rfl e14 (B3.at_ hT) hq (left_intro rfl (Stp.refl _) trivial)
        refine ⟨?_, ?_⟩
        · rintro L a1 w1 hT - - ⟨h77, h78, h75, -⟩   -- 11: Op.binOp BinOp.eql 25 t77 t78 25
          have e77 : a1.tmps.getD 77 undef = _ := h77
          have f77 := getD_form e77
          have e78 : a1.tmps.getD 78 undef = _ := h78
          have f78 := getD_form e78
          have e75 : a1.tmps.getD 75 undef = _ := h75
          have f75 := getD_form e75
          clear h77 h78 h75
          refine ⟨true, 75, by rfl, e75, ?_⟩; rw [if_pos rfl]
          exact wp_bin .eql 25 25 (.tmp 77) (.tmp 78) rfl _ _ e77 e78 guard_lab _ ((eql_lab _ _ (by assumption) (by assumption) _).trans (by rw [hqq])) (left_intro rfl (Stp.refl _) trivial)
        refine ⟨?_, ?_⟩
        · rintro L a1 w1 hT - - ⟨h75, h79, -⟩   -- 12: Op.pick t75 t79 (const (Value.bool false))
          have e75 : a1.tmps.getD 75 undef = _ := h75
          have f75 := getD_form e75
          have e79 : a1.tmps.getD 79 undef = _ := h79
          have f79 := getD_form e79
          clear h75 h79
          go_simp; exact left_intro rfl (Stp.refl _) trivial
        refine ⟨?_, ?_⟩
        · rintro L a1 w1 hT - - ⟨h80, -⟩   -- 13: Op.move t80
          have e80 : a1.tmps.getD 80 undef = _ := h80
          have f80 := getD_form e80
          clear h80
          go_simp; exact left_intro rfl (Stp.refl _) trivial
        refine ⟨?_, ?_⟩
        · rintro L a1 w1 hT - - ⟨h14, h81, -⟩   -- 14: Op.load 25 t14
          have e14 : a1.tmps.getD 14 undef = _ := h14
          have f14 := getD_form e14
          have e81 : a1.tmps.getD 81 undef = _ := h81
          have f81 := getD_form e81
          clear h14 h81
          refine ⟨true, 81, by rfl, e81, ?_⟩; rw [if_pos rfl]
          exact wp_load_lab (.tmp 14) rfl e14 (B3.at_ hT) hq (left_intro rfl (Stp.refl _) trivial)
        refine ⟨?_, ?_⟩
        · rintro L a1 w1 hT - - ⟨h0, h81, -⟩   -- 15: Op.move t0
          have e0 : a1.tmps.getD 0 undef = _ := h0
          have f0 := getD_form e0
          have e81 : a1.tmps.getD 81 undef = _ := h81
          have f81 := getD_form e81
          clear h0 h81
          refine ⟨true, 81, by rfl, e81, ?_⟩; rw [if_pos rfl]
          go_simp; exact left_intro rfl (Stp.refl _) trivial
        refine ⟨?_, ?_⟩
        · rintro L a1 w1 hT - - ⟨h1, h81, -⟩   -- 16: Op.move t1
          have e1 : a1.tmps.getD 1 undef = _ := h1
          have f1 := getD_form e1
          have e81 : a1.tmps.getD 81 undef = _ := h81
          have f81 := getD_form e81
          clear h1 h81
          refine ⟨true, 81, by rfl, e81, ?_⟩; rw [if_pos rfl]
          go_simp; exact left_intro rfl (Stp.refl _) trivial
        refine ⟨?_, ?_⟩
        · rintro L a1 w1 hT - - ⟨h2, h81, -⟩   -- 17: Op.move t2
          have e2 : a1.tmps.getD 2 undef = _ := h2
          have f2 := getD_form e2
          have e81 : a1.tmps.getD 81 undef = _ := h81
          have f81 := getD_form e81
          clear h2 h81
          refine ⟨true, 81, by rfl, e81, ?_⟩; rw [if_pos rfl]
          go_simp; exact left_intro rfl (Stp.refl _) trivial
        refine ⟨?_, ?_⟩
        · rintro L a1 w1 hT - - ⟨h11, h81, -⟩   -- 18: Op.load 25 t11
          have e11 : a1.tmps.getD 11 undef = _ := h11
          have f11 := getD_form e11
          have e81 : a1.tmps.getD 81 undef = _ := h81
          have f81 := getD_form e81
          clear h11 h81
          refine ⟨true, 81, by rfl, e81, ?_⟩; rw [if_pos rfl]
          exact wp_load_lab (.tmp 11) rfl e11 (B2.at_ hT) hx (left_intro rfl (Stp.refl _) trivial)
        refine ⟨?_, ?_⟩
        · rintro L a1 w1 hT - - ⟨h82, h83, h84, h85, h86, h81, -⟩   -- 19: Op.call { value (Operand.func 34), args := #[t82, t83, t84, t85, t86], argTypes := #[25, 9
          have e82 : a1.tmps.getD 82 undef = _ := h82
          have f82 := getD_form e82
          have e83 : a1.tmps.getD 83 undef = _ := h83
          have f83 := getD_form e83
          have e84 : a1.tmps.getD 84 undef = _ := h84
          have f84 := getD_form e84
          have e85 : a1.tmps.getD 85 undef = _ := h85
          have f85 := getD_form e85
          have e86 : a1.tmps.getD 86 undef = _ := h86
          have f86 := getD_form e86
          have e81 : a1.tmps.getD 81 undef = _ := h81
          have f81 := getD_form e81
          clear h82 h83 h84 h85 h86 h81
          refine ⟨true, 81, by rfl, e81, ?_⟩; rw [if_pos rfl]
          go_simp; go_at_call 34; (with_reducible refine (CQ.out _).mono ?_); rintro e w2 ⟨rfl, hb⟩; exact left_intro rfl (Stp.of hb) trivial
        refine ⟨?_, ?_⟩
        · rintro L a1 w1 hT - - ⟨h81, h87, -⟩   -- 20: Op.pick t81 t87 (const (Value.bool false))
          have e81 : a1.tmps.getD 81 undef = _ := h81
          have f81 := getD_form e81
          have e87 : a1.tmps.getD 87 undef = _ := h87
          have f87 := getD_form e87
          clear h81 h87
          go_simp; exact left_intro rfl (Stp.refl _) trivial
        refine ⟨?_, ?_⟩
        · rintro L a1 w1 hT - - ⟨h88, -⟩   -- 21: Op.move t88
          have e88 : a1.tmps.getD 88 undef = _ := h88
          have f88 := getD_form e88
          clear h88
          go_simp; exact left_intro rfl (Stp.refl _) trivial
        refine ⟨?_, ?_⟩
        · rintro L a1 w1 hT - - ⟨h8, h89, -⟩   -- 22: Op.load 25 t8
          have e8 : a1.tmps.getD 8 undef = _ := h8
          have f8 := getD_form e8
          have e89 : a1.tmps.getD 89 undef = _ := h89
          have f89 := getD_form e89
          clear h8 h89
          refine ⟨true, 89, by rfl, e89, ?_⟩; rw [if_pos rfl]
          exact wp_load_lab (.tmp 8) rfl e8 (B0.at_ hT) hp (left_intro rfl (Stp.refl _) trivial)
        refine ⟨?_, ?_⟩
        · rintro L a1 w1 hT - - ⟨h0, h89, -⟩   -- 23: Op.move t0
          have e0 : a1.tmps.getD 0 undef = _ := h0
          have f0 := getD_form e0
          have e89 : a1.tmps.getD 89 undef = _ := h89
          have f89 := getD_form e89
          clear h0 h89
          refine ⟨true, 89, by rfl, e89, ?_⟩; rw [if_pos rfl]
          go_simp; exact left_intro rfl (Stp.refl _) trivial
        refine ⟨?_, ?_⟩
        · rintro L a1 w1 hT - - ⟨h1, h89, -⟩   -- 24: Op.move t1
          have e1 : a1.tmps.getD 1 undef = _ := h1
          have f1 := getD_form e1
          have e89 : a1.tmps.getD 89 undef = _ := h89
          have f89 := getD_form e89
          clear h1 h89
          refine ⟨true, 89, by rfl, e89, ?_⟩; rw [if_pos rfl]
          go_simp; exact left_intro rfl (Stp.refl _) trivial
        refine ⟨?_, ?_⟩
        · rintro L a1 w1 hT - - ⟨h2, h89, -⟩   -- 25: Op.move t2
          have e2 : a1.tmps.getD 2 undef = _ := h2
          have f2 := getD_form e2
          have e89 : a1.tmps.getD 89 undef = _ := h89
          have f89 := getD_form e89
          clear h2 h89
          refine ⟨true, 89, by rfl, e89, ?_⟩; rw [if_pos rfl]
          go_simp; exact left_intro rfl (Stp.refl _) trivial
        refine ⟨?_, ?_⟩
        · rintro L a1 w1 hT - - ⟨h9, h89, -⟩   -- 26: Op.load 25 t9
          have e9 : a1.tmps.getD 9 undef = _ := h9
          have f9 := getD_form e9
          have e89 : a1.tmps.getD 89 undef = _ := h89
          have f89 := getD_form e89
          clear h9 h89
          refine ⟨true, 89, by rfl, e89, ?_⟩; rw [if_pos rfl]
          exact wp_load_lab (.tmp 9) rfl e9 (B1.at_ hT) hs (left_intro rfl (Stp.refl _) trivial)
        refine ⟨?_, ?_⟩
        · rintro L a1 w1 hT - - ⟨h90, h91, h92, h93, h94, h89, -⟩   -- 27: Op.call { value (Operand.func 34), args := #[t90, t91, t92, t93, t94], argTypes := #[25, 9
          have e90 : a1.tmps.getD 90 undef = _ := h90
          have f90 := getD_form e90
          have e91 : a1.tmps.getD 91 undef = _ := h91
          have f91 := getD_form e91
          have e92 : a1.tmps.getD 92 undef = _ := h92
          have f92 := getD_form e92
          have e93 : a1.tmps.getD 93 undef = _ := h93
          have f93 := getD_form e93
          have e94 : a1.tmps.getD 94 undef = _ := h94
          have f94 := getD_form e94
          have e89 : a1.tmps.getD 89 undef = _ := h89
          have f89 := getD_form e89
          clear h90 h91 h92 h93 h94 h89
          refine ⟨true, 89, by rfl, e89, ?_⟩; rw [if_pos rfl]
          go_simp; go_at_call 34; (with_reducible refine (CC.out _).mono ?_); rintro e w2 ⟨rfl, hb⟩; exact left_intro rfl (Stp.of hb) trivial
        refine ⟨?_, ?_⟩
        · rintro L a1 w1 hT - - ⟨h8, h89, -⟩   -- 28: Op.load 25 t8
          have e8 : a1.tmps.getD 8 undef = _ := h8
          have f8 := getD_form e8
          have e89 : a1.tmps.getD 89 undef = _ := h89
          have f89 := getD_form e89
          clear h8 h89
          refine ⟨true, 89, by rfl, e89, ?_⟩; rw [if_pos rfl]
          exact wp_load_lab (.tmp 8) rfl e8 (B0.at_ hT) hp (left_intro rfl (Stp.refl _) trivial)
        refine ⟨?_, ?_⟩
        · rintro L a1 w1 hT - - ⟨h14, h89, -⟩   -- 29: Op.load 25 t14
          have e14 : a1.tmps.getD 14 undef = _ := h14
          have f14 := getD_form e14
          have e89 : a1.tmps.getD 89 undef = _ := h89
          have f89 := getD_form e89
          clear h14 h89
          refine ⟨true, 89, by rfl, e89, ?_⟩; rw [if_pos rfl]
          exact wp_load_lab (.tmp 14) rfl e14 (B3.at_ hT) hq (left_intro rfl (Stp.refl _) trivial)
        refine ⟨?_, ?_⟩
        · rintro L a1 w1 hT - - ⟨h96, h97, h89, -⟩   -- 30: Op.binOp BinOp.eql 25 t96 t97 25
          have e96 : a1.tmps.getD 96 undef = _ := h96
          have f96 := getD_form e96
          have e97 : a1.tmps.getD 97 undef = _ := h97
          have f97 := getD_form e97
          have e89 : a1.tmps.getD 89 undef = _ := h89
          have f89 := getD_form e89
          clear h96 h97 h89
          refine ⟨true, 89, by rfl, e89, ?_⟩; rw [if_pos rfl]
          exact wp_bin .eql 25 25 (.tmp 96) (.tmp 97) rfl _ _ e96 e97 guard_lab _ ((eql_lab _ _ (by assumption) (by assumption) _).trans (by rw [h1])) (left_intro rfl (Stp.refl _) trivial)
        refine ⟨?_, ?_⟩
        · rintro L a1 w1 hT - - ⟨h98, h89, -⟩   -- 31: Op.move t98
          have e98 : a1.tmps.getD 98 undef = _ := h98
          have f98 := getD_form e98
          have e89 : a1.tmps.getD 89 undef = _ := h89
          have f89 := getD_form e89
          clear h98 h89
          refine ⟨true, 89, by rfl, e89, ?_⟩; rw [if_pos rfl]
          go_simp; exact left_intro rfl (Stp.refl _) trivial
        refine ⟨?_, ?_⟩
        · rintro L a1 w1 hT - - ⟨h9, h99, -⟩   -- 32: Op.load 25 t9
          have e9 : a1.tmps.getD 9 undef = _ := h9
          have f9 := getD_form e9
          have e99 : a1.tmps.getD 99 undef = _ := h99
          have f99 := getD_form e99
          clear h9 h99
          refine ⟨false, 99, by rfl, e99, ?_⟩; rw [if_neg (by decide)]
          exact left_intro rfl (Stp.refl _) trivial
        refine ⟨?_, ?_⟩
        · rintro L a1 w1 hT - - ⟨h11, h99, -⟩   -- 33: Op.load 25 t11
          have e11 : a1.tmps.getD 11 undef = _ := h11
          have f11 := getD_form e11
          have e99 : a1.tmps.getD 99 undef = _ := h99
          have f99 := getD_form e99
          clear h11 h99
          refine ⟨false, 99, by rfl, e99, ?_⟩; rw [if_neg (by decide)]
          exact left_intro rfl (Stp.refl _) trivial
        refine ⟨?_, ?_⟩
        · rintro L a1 w1 hT - - ⟨h100, h101, h99, -⟩   -- 34: Op.binOp BinOp.eql 25 t100 t101 25
          have e100 : a1.tmps.getD 100 undef = _ := h100
          have f100 := getD_form e100
          have e101 : a1.tmps.getD 101 undef = _ := h101
          have f101 := getD_form e101
          have e99 : a1.tmps.getD 99 undef = _ := h99
          have f99 := getD_form e99
          clear h100 h101 h99
          refine ⟨false, 99, by rfl, e99, ?_⟩; rw [if_neg (by decide)]
          exact left_intro rfl (Stp.refl _) trivial
        refine ⟨?_, ?_⟩
        · rintro L a1 w1 hT - - ⟨h99, h102, h89, -⟩   -- 35: Op.pick t99 t102 (const (Value.bool false))
          have e99 : a1.tmps.getD 99 undef = _ := h99
          have f99 := getD_form e99
          have e102 : a1.tmps.getD 102 undef = _ := h102
          have f102 := getD_form e102
          have e89 : a1.tmps.getD 89 undef = _ := h89
          have f89 := getD_form e89
          clear h99 h102 h89
          refine ⟨true, 89, by rfl, e89, ?_⟩; rw [if_pos rfl]
          go_simp; exact left_intro rfl (Stp.refl _) trivial
        refine ⟨?_, ?_⟩
        · rintro L a1 w1 hT - - ⟨h95, h103, h89, -⟩   -- 36: Op.binOp BinOp.eql 4 t95 t103 4
          have e95 : a1.tmps.getD 95 undef = _ := h95
          have f95 := getD_form e95
          have e103 : a1.tmps.getD 103 undef = _ := h103
          have f103 := getD_form e103
          have e89 : a1.tmps.getD 89 undef = _ := h89
          have f89 := getD_form e89
          clear h95 h103 h89
          refine ⟨true, 89, by rfl, e89, ?_⟩; rw [if_pos rfl]
          go_simp; exact left_intro rfl (Stp.refl _) trivial
        refine ⟨?_, ?_⟩
        · rintro L a1 w1 hT - - ⟨h89, h104, -⟩   -- 37: Op.pick t89 t104 (const (Value.bool false))
          have e89 : a1.tmps.getD 89 undef = _ := h89
          have f89 := getD_form e89
          have e104 : a1.tmps.getD 104 undef = _ := h104
          have f104 := getD_form e104
          clear h89 h104
          go_simp; exact left_intro rfl (Stp.refl _) trivial
        refine ⟨?_, ?_⟩
        · rintro L a1 w1 hT - - ⟨h105, -⟩   -- 38: Op.assign t105
          have e105 : a1.tmps.getD 105 undef = _ := h105
          have f105 := getD_form e105
          clear h105
          go_simp; exact left_intro rfl (Stp.refl _) trivial
        trivial
      case hmono => repeat (first | exact trivial | refine ⟨fun _ _ _ _ h => h, ?_⟩)
      case hend =>
        intro w2 hT
        rintro _ rfl _ rfl _ rfl _ rfl _ rfl _ rfl _ rfl _ rfl _ rfl _ rfl _ rfl _ rfl _ rfl _ rfl _ rfl _ rfl _ rfl _ rfl _ rfl _ rfl _ rfl _ rfl _ rfl _ rfl _ rfl _ rfl _ rfl _ rfl _ rfl _ rfl _ rfl _ rfl _ rfl _ rfl _ rfl _ rfl _ rfl _ rfl _ rfl
        simp only [relEnd, Act.put, List.setIfInBounds_toArray, List.set_cons_succ, List.set_cons_zero]
        go_wp2
        go_ret
        exact ⟨rfl, hB9.trans (hT.mono hB9.size)⟩
  · have hseed : L.seed key id v = zlab := if_neg he
    have hck : L.chk p key id v s = false := by unfold L.chk; rw [decide_eq_false he, Bool.false_and, Bool.false_and]
    rw [hck] at CC
    have d0 : (((L.err key id v : Nat) : Int) != 0) = true := by rw [bne_iff_ne]; omega
    have hgd : L.good key = (decide (1 ≤ key.length) && decide (key.length ≤ 64)) := rfl
    generalize L.err key id v = E at *
    generalize L.good key = G at *
    clear he hck
    generalize L.seed key id v = x at *
    generalize (⟨id.toArray⟩ : ByteArray) = I at *
    have HE := Lib.hid (eql_lab x zlab hx rfl)
    rw [show (x == zlab) = true by rw [hseed]; rfl] at HE
    clear hseed
    by_cases g1 : 1 ≤ key.length
    · have d1 : decide ((1 : Int) ≤ (key.length : Int)) = true := by simp; omega
      have d1' : decide (1 ≤ key.length) = true := by simp; omega
      have d1'' : decide (0 < key.length) = true := by simp; omega
      rw [d1', Bool.true_and] at hgd
      by_cases g2 : key.length ≤ 64
      · have d2 : decide ((key.length : Int) ≤ 64) = true := by simp; omega
        have d2' : decide (key.length ≤ 64) = true := by simp; omega
        rw [d2'] at hgd
        subst hgd
        clear g1 g2
        go_enter Try.func9, Try.ntmps9
        go_wp2_with (first | (refine wpList_fresh (by rfl) 25 (by rfl) _ fresh_lab ?_; simp only [Act.put, List.setIfInBounds_toArray, List.set_cons_succ, List.set_cons_zero]; try simp only [World.size_alloc]) | (go_at_call 18; with_reducible refine (H0.out _).mono ?_; rintro e w0 ⟨rfl, rfl⟩) | (go_at_call 18; with_reducible refine (H00.out _).mono ?_; rintro e w0 ⟨rfl, rfl⟩) | (go_at_call 30; with_reducible refine (SS.out _).mono ?_; rintro e w3 ⟨rfl, hb1⟩; replace b0 := b0.at_ hb1; replace b1 := b1.at_ hb1; replace hB := hB.trans (hb1.mono hB.size); have hS3 := Nat.le_trans hS2 hb1.size; clear hb1) | ((refine wpList_store_blk (by rfl) 25 (.tmp 11) (.tmp 24) (by rfl) (0) (labA x) (by rfl) (by rfl) ((Blk.new w3 (labA zlab) 25)) ((by rw [labA_size, labA_size, hx]; decide)) (size_lab _ hx) (labA_all _) ?_; simp only [Act.put]); intro w9 b9 o9; rw [splice_all _ _ (by rw [labA_size, labA_size, hx]; decide)] at b9; replace b0 := (b0.alloc (.cells (labA zlab) 25)).only o9 (by have := b0.lt; omega); replace b1 := (b1.alloc (.cells (labA zlab) 25)).only o9 (by have := b1.lt; omega); replace hB := o9.below (hB.alloc hB.size _) hB.size; clear o9) | (go_at_call 31; with_reducible refine (EE.out _).mono ?_; rintro e w4 ⟨rfl, hb1⟩; replace b0 := b0.at_ hb1; replace b1 := b1.at_ hb1; replace b9 := b9.at_ hb1; replace hB := hB.trans (hb1.mono hB.size); clear hb1) | (go_at_call 32; with_reducible refine (lawake_any _).mono ?_; rintro e w5 ⟨rfl, hb1⟩; replace b0 := b0.at_ hb1; replace b1 := b1.at_ hb1; replace b9 := b9.at_ hb1; replace hB := hB.trans (hb1.mono hB.size); clear hb1) | (go_at_call 33; with_reducible refine (GG.out _).mono ?_; rintro e w10 ⟨rfl, rfl⟩) | (refine wpList_zero (by rfl) 25 (by rfl) _ build_labz ?_; simp only [Act.put, List.setIfInBounds_toArray, List.set_cons_succ, List.set_cons_zero]) | (refine wpList_load_blk (by rfl) 25 (.tmp 11) (by rfl) 0 (by rfl) (b9) (labA x) whole_at _ Try.underlying25 (by rfl) (size_lab _ hx) ?_; simp only [Act.put, List.setIfInBounds_toArray, List.set_cons_succ, List.set_cons_zero]) | (refine wpList_load_blk (by rfl) 25 (.tmp 8) (by rfl) 0 (by rfl) (b0) (labA p) whole_at _ Try.underlying25 (by rfl) (size_lab _ hp) ?_; simp only [Act.put, List.setIfInBounds_toArray, List.set_cons_succ, List.set_cons_zero]) | (refine wpList_load_blk (by rfl) 25 (.tmp 9) (by rfl) 0 (by rfl) (b1) (labA s) whole_at _ Try.underlying25 (by rfl) (size_lab _ hs) ?_; simp only [Act.put, List.setIfInBounds_toArray, List.set_cons_succ, List.set_cons_zero]) | (refine wpList_bin (by rfl) .eql 25 25 (.tmp 52) (.tmp 53) (by rfl) (labA x) (labA zlab) (by rfl) (by rfl) guard_lab (.bool true) (HE.out) ?_; simp only [Act.put, List.setIfInBounds_toArray, List.set_cons_succ, List.set_cons_zero]) | (go_at_call 34; with_reducible refine (CC.out _).mono ?_; rintro e w11 ⟨rfl, hb1⟩; replace b0 := b0.at_ hb1; replace b1 := b1.at_ hb1; replace b9 := b9.at_ hb1; replace hB := hB.trans (hb1.mono hB.size); clear hb1))
        go_ret
        exact ⟨rfl, hB⟩
      · have d2 : decide ((key.length : Int) ≤ 64) = false := by simp; omega
        have d2' : decide (key.length ≤ 64) = false := by simp; omega
        rw [d2'] at hgd
        subst hgd
        clear g1 g2
        go_enter Try.func9, Try.ntmps9
        go_wp2_with (first | (refine wpList_fresh (by rfl) 25 (by rfl) _ fresh_lab ?_; simp only [Act.put, List.setIfInBounds_toArray, List.set_cons_succ, List.set_cons_zero]; try simp only [World.size_alloc]) | (go_at_call 18; with_reducible refine (H0.out _).mono ?_; rintro e w0 ⟨rfl, rfl⟩) | (go_at_call 18; with_reducible refine (H00.out _).mono ?_; rintro e w0 ⟨rfl, rfl⟩) | (go_at_call 30; with_reducible refine (SS.out _).mono ?_; rintro e w3 ⟨rfl, hb1⟩; replace b0 := b0.at_ hb1; replace b1 := b1.at_ hb1; replace hB := hB.trans (hb1.mono hB.size); have hS3 := Nat.le_trans hS2 hb1.size; clear hb1) | ((refine wpList_store_blk (by rfl) 25 (.tmp 11) (.tmp 24) (by rfl) (0) (labA x) (by rfl) (by rfl) ((Blk.new w3 (labA zlab) 25)) ((by rw [labA_size, labA_size, hx]; decide)) (size_lab _ hx) (labA_all _) ?_; simp only [Act.put]); intro w9 b9 o9; rw [splice_all _ _ (by rw [labA_size, labA_size, hx]; decide)] at b9; replace b0 := (b0.alloc (.cells (labA zlab) 25)).only o9 (by have := b0.lt; omega); replace b1 := (b1.alloc (.cells (labA zlab) 25)).only o9 (by have := b1.lt; omega); replace hB := o9.below (hB.alloc hB.size _) hB.size; clear o9) | (go_at_call 31; with_reducible refine (EE.out _).mono ?_; rintro e w4 ⟨rfl, hb1⟩; replace b0 := b0.at_ hb1; replace b1 := b1.at_ hb1; replace b9 := b9.at_ hb1; replace hB := hB.trans (hb1.mono hB.size); clear hb1) | (go_at_call 32; with_reducible refine (lawake_any _).mono ?_; rintro e w5 ⟨rfl, hb1⟩; replace b0 := b0.at_ hb1; replace b1 := b1.at_ hb1; replace b9 := b9.at_ hb1; replace hB := hB.trans (hb1.mono hB.size); clear hb1) | (go_at_call 33; with_reducible refine (GG.out _).mono ?_; rintro e w10 ⟨rfl, rfl⟩) | (refine wpList_zero (by rfl) 25 (by rfl) _ build_labz ?_; simp only [Act.put, List.setIfInBounds_toArray, List.set_cons_succ, List.set_cons_zero]) | (refine wpList_load_blk (by rfl) 25 (.tmp 11) (by rfl) 0 (by rfl) (b9) (labA x) whole_at _ Try.underlying25 (by rfl) (size_lab _ hx) ?_; simp only [Act.put, List.setIfInBounds_toArray, List.set_cons_succ, List.set_cons_zero]) | (refine wpList_load_blk (by rfl) 25 (.tmp 8) (by rfl) 0 (by rfl) (b0) (labA p) whole_at _ Try.underlying25 (by rfl) (size_lab _ hp) ?_; simp only [Act.put, List.setIfInBounds_toArray, List.set_cons_succ, List.set_cons_zero]) | (refine wpList_load_blk (by rfl) 25 (.tmp 9) (by rfl) 0 (by rfl) (b1) (labA s) whole_at _ Try.underlying25 (by rfl) (size_lab _ hs) ?_; simp only [Act.put, List.setIfInBounds_toArray, List.set_cons_succ, List.set_cons_zero]) | (refine wpList_bin (by rfl) .eql 25 25 (.tmp 52) (.tmp 53) (by rfl) (labA x) (labA zlab) (by rfl) (by rfl) guard_lab (.bool true) (HE.out) ?_; simp only [Act.put, List.setIfInBounds_toArray, List.set_cons_succ, List.set_cons_zero]) | (go_at_call 34; with_reducible refine (CC.out _).mono ?_; rintro e w11 ⟨rfl, hb1⟩; replace b0 := b0.at_ hb1; replace b1 := b1.at_ hb1; replace b9 := b9.at_ hb1; replace hB := hB.trans (hb1.mono hB.size); clear hb1))
        go_ret
        exact ⟨rfl, hB⟩
    · have d1 : decide ((1 : Int) ≤ (key.length : Int)) = false := decide_eq_false (by omega)
      have d1' : decide (1 ≤ key.length) = false := decide_eq_false (by omega)
      have d1'' : decide (0 < key.length) = false := decide_eq_false (by omega)
      rw [d1', Bool.false_and] at hgd
      subst hgd
      clear g1
      go_enter Try.func9, Try.ntmps9
      go_wp2_with (first | (refine wpList_fresh (by rfl) 25 (by rfl) _ fresh_lab ?_; simp only [Act.put, List.setIfInBounds_toArray, List.set_cons_succ, List.set_cons_zero]; try simp only [World.size_alloc]) | (go_at_call 18; with_reducible refine (H0.out _).mono ?_; rintro e w0 ⟨rfl, rfl⟩) | (go_at_call 18; with_reducible refine (H00.out _).mono ?_; rintro e w0 ⟨rfl, rfl⟩) | (go_at_call 30; with_reducible refine (SS.out _).mono ?_; rintro e w3 ⟨rfl, hb1⟩; replace b0 := b0.at_ hb1; replace b1 := b1.at_ hb1; replace hB := hB.trans (hb1.mono hB.size); have hS3 := Nat.le_trans hS2 hb1.size; clear hb1) | ((refine wpList_store_blk (by rfl) 25 (.tmp 11) (.tmp 24) (by rfl) (0) (labA x) (by rfl) (by rfl) ((Blk.new w3 (labA zlab) 25)) ((by rw [labA_size, labA_size, hx]; decide)) (size_lab _ hx) (labA_all _) ?_; simp only [Act.put]); intro w9 b9 o9; rw [splice_all _ _ (by rw [labA_size, labA_size, hx]; decide)] at b9; replace b0 := (b0.alloc (.cells (labA zlab) 25)).only o9 (by have := b0.lt; omega); replace b1 := (b1.alloc (.cells (labA zlab) 25)).only o9 (by have := b1.lt; omega); replace hB := o9.below (hB.alloc hB.size _) hB.size; clear o9) | (go_at_call 31; with_reducible refine (EE.out _).mono ?_; rintro e w4 ⟨rfl, hb1⟩; replace b0 := b0.at_ hb1; replace b1 := b1.at_ hb1; replace b9 := b9.at_ hb1; replace hB := hB.trans (hb1.mono hB.size); clear hb1) | (go_at_call 32; with_reducible refine (lawake_any _).mono ?_; rintro e w5 ⟨rfl, hb1⟩; replace b0 := b0.at_ hb1; replace b1 := b1.at_ hb1; replace b9 := b9.at_ hb1; replace hB := hB.trans (hb1.mono hB.size); clear hb1) | (go_at_call 33; with_reducible refine (GG.out _).mono ?_; rintro e w10 ⟨rfl, rfl⟩) | (refine wpList_zero (by rfl) 25 (by rfl) _ build_labz ?_; simp only [Act.put, List.setIfInBounds_toArray, List.set_cons_succ, List.set_cons_zero]) | (refine wpList_load_blk (by rfl) 25 (.tmp 11) (by rfl) 0 (by rfl) (b9) (labA x) whole_at _ Try.underlying25 (by rfl) (size_lab _ hx) ?_; simp only [Act.put, List.setIfInBounds_toArray, List.set_cons_succ, List.set_cons_zero]) | (refine wpList_load_blk (by rfl) 25 (.tmp 8) (by rfl) 0 (by rfl) (b0) (labA p) whole_at _ Try.underlying25 (by rfl) (size_lab _ hp) ?_; simp only [Act.put, List.setIfInBounds_toArray, List.set_cons_succ, List.set_cons_zero]) | (refine wpList_load_blk (by rfl) 25 (.tmp 9) (by rfl) 0 (by rfl) (b1) (labA s) whole_at _ Try.underlying25 (by rfl) (size_lab _ hs) ?_; simp only [Act.put, List.setIfInBounds_toArray, List.set_cons_succ, List.set_cons_zero]) | (refine wpList_bin (by rfl) .eql 25 25 (.tmp 52) (.tmp 53) (by rfl) (labA x) (labA zlab) (by rfl) (by rfl) guard_lab (.bool true) (HE.out) ?_; simp only [Act.put, List.setIfInBounds_toArray, List.set_cons_succ, List.set_cons_zero]) | (go_at_call 34; with_reducible refine (CC.out _).mono ?_; rintro e w11 ⟨rfl, hb1⟩; replace b0 := b0.at_ hb1; replace b1 := b1.at_ hb1; replace b9 := b9.at_ hb1; replace hB := hB.trans (hb1.mono hB.size); clear hb1))
      go_ret
      exact ⟨rfl, hB⟩
set_option maxRecDepth 1000000 in
theorem seeds_law : LawHolds 9 Try.f9 := by
  intro H enc W base args ds p hval hA
  rw [Try.params9] at hA hval
  obtain ⟨v0, vs0, d0, ds0, p0, q0, hargs, rfl, rfl, k0, r0⟩ := trodAll_cons hA
  obtain ⟨v1, vs1, d1, ds1, p1, q1, rfl, rfl, rfl, k1, r1⟩ := trodAll_cons r0
  obtain ⟨v2, vs2, d2, ds2, p2, q2, rfl, rfl, rfl, k2, r2⟩ := trodAll_cons r1
  obtain ⟨v3, vs3, d3, ds3, p3, q3, rfl, rfl, rfl, k3, r3⟩ := trodAll_cons r2
  obtain ⟨v4, vs4, d4, ds4, p4, q4, rfl, rfl, rfl, k4, r4⟩ := trodAll_cons r3
  obtain ⟨rfl, rfl, rfl⟩ := trodAll_nil r4
  obtain rfl : args = #[v0, v1, v2, v3, v4] := by cases args; simp_all
  obtain ⟨l, rfl, _⟩ := open_text (hval 0 9 v0 rfl rfl) k0
  obtain ⟨m, rfl, _⟩ := open_text (hval 1 9 v1 rfl rfl) k1
  obtain ⟨x, rfl, _, _, _⟩ := open_int Try.underlying3 (hval 2 3 v2 rfl rfl) k2
  obtain ⟨a, ha, rfl⟩ := open_lab (hval 3 25 v3 rfl rfl) k3
  obtain ⟨b, hb, rfl⟩ := open_lab (hval 4 25 v4 rfl rfl) k4
  exact seeds_walk l m x a b ha hb W

theorem seeds_lifted (os : Os) (started : os.Started) (H : Type) (enc : TypeId × Value → H) :
    ReturnsInHanded {} Try.checked os 9 .any (Rows.labelSeedsSpec.pre6 enc Try.prog Try.f9 Rows.labelSeedsRow.domain false) (Rows.labelSeedsSpec.post enc Try.prog Try.f9 false true false false) :=
  lifted_of started (by kernel_rfl) Try.func9
    (ChangeSpec.witness6 (enc := enc) (C := Try.checked) false ⟨#[], #[.string ⟨#[]⟩, .string ⟨#[]⟩, .int .i64 0, .agg (labA zlab), .agg (labA zlab)], []⟩ 8 (by kernel_rfl) (by kernel_rfl) (by kernel_rfl) (by kernel_rfl))
    rfl (by kernel_rfl) (fun ds h => by rw [Try.params9] at h; match ds, h with | [_, _, _, _, _], _ => rfl) (by rw [Try.params9]; exact of_decide_eq_true (by kernel_rfl)) seeds_law
theorem seeds_over : Rows.labelSeedsRow.holds Try.pinned (OpenSpec.ofChange Rows.labelSeedsSpec) :=
  OpenClaim.holds_of_wide 9 Try.f9 rfl rfl rfl rfl rfl rfl rfl ⟨rfl, rfl, rfl, rfl, rfl⟩ rfl rfl rfl rfl rfl (by kernel_rfl) Try.func9 (by kernel_rfl)
    (of_decide_eq_true (by kernel_rfl)) (by unfold Func.isWrapper; first | (rw [if_pos (by decide +kernel)]; kernel_rfl) | (rw [if_neg (by decide +kernel)]; exact ⟨rfl, rfl⟩))
    (fun os started H enc _ => seeds_lifted os started H enc)
/-- The statement. -/
theorem seeds_proved : Rows.LabelSeedsSaid := seeds_over
#print axioms seeds_proved
end Go.Proofs.Ytgjmnhbkdccgpaa

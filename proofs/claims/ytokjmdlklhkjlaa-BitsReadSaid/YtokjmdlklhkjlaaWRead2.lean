/- The walk of the reference's Read. -/
import Derived.Test.YtokjmdlklhkjlaaWRead
namespace Go.Proofs.Ytokjmdlklhkjlaa
open Go.RowKit

set_option maxHeartbeats 1000000 in
/-- The reference's Read. -/
theorem rread_any (s : ByteArray) (w : World) : Calls Try.prog 36 #[.string s] w fun e w' => e = .returned (.tuple #[.agg (labA (rdLab s.data.toList)), .bool (B.read s.data.toList).isSome]) ∧ Below w.heap.size w w' := by
  have hz : ∀ l : List UInt8, l.length = 32 → (Try.prog.info? 23).map (·.size) = some (labA l).size := fun l hl => by rw [labA_size, hl]; kernel_rfl
  have hsl := str_len s
  have hz0 := hz _ zlab_length
  have b0 : Blk ((w.alloc (.cells (labA zlab) 23)).alloc (.cells (labA zlab) 23)) (w.heap.size + 1) (labA zlab) 23 := heap_alloc2_new _ _ _
  by_cases h64 : s.size = 64
  · have hne : ((s.size : Int) != 64) = false := by rw [h64]; rfl
    go_enter Try.func36, Try.ntmps36
    go_wp2_with (first | (refine wpList_fresh (by rfl) 23 (by rfl) _ fresh_lab ?_; simp only [Act.put, List.setIfInBounds_toArray, List.set_cons_succ, List.set_cons_zero]; try simp only [World.size_alloc]) | (refine wpList_zero (by rfl) 23 (by rfl) _ build_lab ?_; simp only [Act.put, List.setIfInBounds_toArray, List.set_cons_succ, List.set_cons_zero]) | ((refine wpList_store_blk (by rfl) 23 (.tmp 4) (.tmp 8) (by rfl) (0) (labA zlab) (by rfl) (by rfl) (b0) (by rw [labA_size]; omega) hz0 (labA_all _) ?_; simp only [Act.put]); intro w1 b4 o4))
    rw [splice_all _ _ rfl] at b4
    have b2 := (Blk.alloc (Blk.new w (labA zlab) 23) (.cells (labA zlab) 23)).only o4 (by simp)
    have hb := o4.below (((Below.refl w.heap.size w).alloc (Nat.le_refl _) (.cells (labA zlab) 23)).alloc (by simp) (.cells (labA zlab) 23)) (by simp)
    clear o4
    clear b0
    go_wp2
    go_loopw [5] (fun v wr => ∃ k : Nat, k ≤ 32 ∧ v = .int .i64 (k : Int) ∧ B.OkTo s.data.toList k ∧ Blk wr w.heap.size (labA zlab) 23 ∧ Blk wr (w.heap.size + 1) (labA (B.rd s.data.toList k)) 23 ∧ Below w.heap.size w wr) (fun v _ => 32 - (intOf v).toNat)
    case atStart => exact ⟨0, by omega, by simp, B.OkTo.start _, b2, b4, hb⟩
    case round =>
      obtain ⟨k, hk, rfl, hok, b2, b4, hb⟩ := hrel
      have hrl := B.rd_length s.data.toList k hk
      by_cases hlt : k < 32
      · have e1 : IntKind.i64.wrap (2 * (k : Int)) = 2 * (k : Int) := IntWalk.i64_in _ (by omega)
        have e2 : IntKind.i64.wrap (2 * (k : Int) + 1) = 2 * (k : Int) + 1 := IntWalk.i64_in _ (by omega)
        have p1 : (0 : Int) ≤ 2 * (k : Int) := by omega
        have p2 : 2 * (k : Int) < (s.size : Int) := by omega
        have p3 : (0 : Int) ≤ 2 * (k : Int) + 1 := by omega
        have p4 : 2 * (k : Int) + 1 < (s.size : Int) := by omega
        have t1 : (2 * (k : Int)).toNat = 2 * k := by omega
        have t2 : (2 * (k : Int) + 1).toNat = 2 * k + 1 := by omega
        have g1 := str_at s (2 * k)
        have g2 := str_at s (2 * k + 1)
        have hno1 := @B.okAt_no1 s.data.toList k
        have hno2 := @B.okAt_no2 s.data.toList k
        have hyes := @B.okAt_yes s.data.toList k
        have hval := @B.valAt_toNat s.data.toList k
        have hd1 := rdigit_any (s.data.toList.getD (2 * k) 0)
        have hd2 := rdigit_any (s.data.toList.getD (2 * k + 1) 0)
        have r1 : rdig (s.data.toList.getD (2 * k) 0) = _ := rfl
        have r2 : rdig (s.data.toList.getD (2 * k + 1) 0) = _ := rfl
        unfold rdig at r1 r2 hd1 hd2
        generalize B.dig (s.data.toList.getD (2 * k) 0) = D1 at hd1 hno1 hyes hval
        generalize B.dig (s.data.toList.getD (2 * k + 1) 0) = D2 at hd2 hno2 hyes hval
        clear r1 r2
        generalize s.data.toList.getD (2 * k) 0 = c1 at g1 hd1
        generalize s.data.toList.getD (2 * k + 1) 0 = c2 at g2 hd2
        by_cases h1 : D1 ≤ 15
        · rw [if_pos h1] at hd1
          have d1 : decide ((D1 : Int) < 0) = false := by simp
          by_cases h2 : D2 ≤ 15
          · rw [if_pos h2] at hd2
            have d2 : decide ((D2 : Int) < 0) = false := by simp
            have hok1 := hok.next (hyes h1 h2)
            have hv := hval h1 h2
            clear hyes hval hno1 hno2
            have HD1 := Lib.hid hd1
            have HD2 := Lib.hid hd2
            clear hd1 hd2
            go_wp2
            refine wp_region_quiet_below (by kernel_rfl) (by kernel_rfl) ?_
            repeat (first | fail | go_big_quiet_step (first | with_reducible exact calls_regrown _ (fun W _ => HD1.out W) | with_reducible exact calls_regrown _ (fun W _ => HD2.out W) | fail))
            refine wpQuiet_nil ?_
            intro w1 hw1
            have hb1 := below_of_regrown hw1
            clear hw1
            have b21 := b2.at_ hb1
            have b41 := b4.at_ hb1
            have hbw := hb.trans (hb1.mono hb.size)
            clear b2 b4 hb hb1 g1 g2 e1 e2 p1 p2 p3 p4 t1 t2
            have k4 := b41.cellv (labA_get (B.rd s.data.toList k) k (by omega))
            have f4 := b41.free k
            have hset := labA_set (B.rd s.data.toList k) k (B.valAt s.data.toList k)
            rw [B.rd_set _ _ hlt] at hset
            have Hset := Lib.hid hset
            have b42 := b41.set_ k (byteV (B.valAt s.data.toList k))
            rw [Hset.out] at b42
            have b22 := b21.far (p := ⟨w.heap.size + 1, k, none⟩) (by simp) (byteV (B.valAt s.data.toList k))
            have hbw2 := hbw.setCell (p := ⟨w.heap.size + 1, k, none⟩) (by simp) (byteV (B.valAt s.data.toList k))
            clear hset Hset
            unfold byteV at b42 b22 hbw2
            rw [hv] at b42 b22 hbw2
            rw [show ((16 * D1 + D2 : Nat) : Int) = 16 * (D1 : Int) + D2 from by omega] at b42 b22 hbw2
            clear hv
            have q1 : (D1 : Int) ≤ 15 := by omega
            have q2 : (D2 : Int) ≤ 15 := by omega
            go_wp2
            go_roundw
            case rel => exact ⟨k + 1, by omega, by go_num, hok1, b22, b42, hbw2⟩
            case measure => simp [intOf]; omega
          · rw [if_neg h2] at hd2
            have hr := Lib.hid (rd_none (B.read_bad hlt (hno2 h2)))
            clear hno1 hno2 hyes hval h2
            have HD1 := Lib.hid hd1
            have HD2 := Lib.hid hd2
            clear hd1 hd2
            go_wp2
            refine wp_region_quiet_below (by kernel_rfl) (by kernel_rfl) ?_
            repeat (first | fail | go_big_quiet_step (first | with_reducible exact calls_regrown _ (fun W _ => HD1.out W) | with_reducible exact calls_regrown _ (fun W _ => HD2.out W) | fail))
            refine wpQuiet_nil ?_
            intro w1 hw1
            have hb1 := below_of_regrown hw1
            clear hw1
            have b21 := b2.at_ hb1
            have b41 := b4.at_ hb1
            have hbw := hb.trans (hb1.mono hb.size)
            clear b2 b4 hb hb1 g1 g2 e1 e2 p1 p2 p3 p4 t1 t2
            go_wp2_with (first | (refine wpList_zero (by rfl) 23 (by rfl) _ build_lab ?_; simp only [Act.put, List.setIfInBounds_toArray, List.set_cons_succ, List.set_cons_zero]) | ((refine wpList_store_blk (by rfl) 23 (.tmp 2) (.tmp 34) (by rfl) (0) (labA zlab) (by rfl) (by rfl) (b21) (by rw [labA_size]; omega) hz0 (labA_all _) ?_; simp only [Act.put]); intro w5 b5 o5))
            rw [splice_all _ _ rfl] at b5
            refine bodyPost_ret (v := .tuple #[.agg (labA zlab), .bool false]) (results_blk2 (by rfl) _ b5 _ _ (by rfl) (by rfl) Try.underlying23 (by rfl) hz0) rfl ⟨?_, o5.below hbw (by omega)⟩
            rw [hr.out.1, hr.out.2.2]
        · rw [if_neg h1] at hd1
          have hr := Lib.hid (rd_none (B.read_bad hlt (hno1 h1)))
          generalize (if D2 ≤ 15 then ((D2 : Nat) : Int) else -1) = E2 at hd2
          clear hno1 hno2 hyes hval h1
          have HD1 := Lib.hid hd1
          have HD2 := Lib.hid hd2
          clear hd1 hd2
          go_wp2
          refine wp_region_quiet_below (by kernel_rfl) (by kernel_rfl) ?_
          repeat (first | fail | go_big_quiet_step (first | with_reducible exact calls_regrown _ (fun W _ => HD1.out W) | with_reducible exact calls_regrown _ (fun W _ => HD2.out W) | fail))
          refine wpQuiet_nil ?_
          intro w1 hw1
          have hb1 := below_of_regrown hw1
          clear hw1
          have b21 := b2.at_ hb1
          have b41 := b4.at_ hb1
          have hbw := hb.trans (hb1.mono hb.size)
          clear b2 b4 hb hb1 g1 g2 e1 e2 p1 p2 p3 p4 t1 t2
          go_wp2_with (first | (refine wpList_zero (by rfl) 23 (by rfl) _ build_lab ?_; simp only [Act.put, List.setIfInBounds_toArray, List.set_cons_succ, List.set_cons_zero]) | ((refine wpList_store_blk (by rfl) 23 (.tmp 2) (.tmp 34) (by rfl) (0) (labA zlab) (by rfl) (by rfl) (b21) (by rw [labA_size]; omega) hz0 (labA_all _) ?_; simp only [Act.put]); intro w5 b5 o5))
          rw [splice_all _ _ rfl] at b5
          refine bodyPost_ret (v := .tuple #[.agg (labA zlab), .bool false]) (results_blk2 (by rfl) _ b5 _ _ (by rfl) (by rfl) Try.underlying23 (by rfl) hz0) rfl ⟨?_, o5.below hbw (by omega)⟩
          rw [hr.out.1, hr.out.2.2]
      · have hk32 : k = 32 := by omega
        subst hk32
        have hr := Lib.hid (rd_some (B.read_some (hsl.trans h64) hok))
        go_wp2_with (first | (refine wpList_load_blk (by rfl) 23 (.tmp 4) (by rfl) 0 (by rfl) (b4) (labA (B.rd s.data.toList 32)) whole_at _ Try.underlying23 (by rfl) (hz _ hrl) ?_; simp only [Act.put, List.setIfInBounds_toArray, List.set_cons_succ, List.set_cons_zero]) | ((refine wpList_store_blk (by rfl) 23 (.tmp 2) (.tmp 42) (by rfl) (0) (labA (B.rd s.data.toList 32)) (by rfl) (by rfl) (b2) (by rw [labA_size, labA_size, hrl, zlab_length]; omega) (hz _ hrl) (labA_all _) ?_; simp only [Act.put]); intro w5 b5 o5))
        rw [splice_all _ _ (by rw [labA_size, labA_size, hrl, zlab_length])] at b5
        refine bodyPost_ret (v := .tuple #[.agg (labA (B.rd s.data.toList 32)), .bool true]) (results_blk2 (by rfl) _ b5 _ _ (by rfl) (by rfl) Try.underlying23 (by rfl) (hz _ hrl)) rfl ⟨?_, o5.below hb (by omega)⟩
        rw [hr.out.1, hr.out.2.2]
  · have hne : ((s.size : Int) != 64) = true := by rw [bne_iff_ne]; omega
    have hr := Lib.hid (rd_none (B.read_len (by omega : s.data.toList.length ≠ 64)))
    have hb := ((Below.refl w.heap.size w).alloc (Nat.le_refl _) (.cells (labA zlab) 23)).alloc (by simp) (.cells (labA zlab) 23)
    have b2 : Blk ((w.alloc (.cells (labA zlab) 23)).alloc (.cells (labA zlab) 23)) w.heap.size (labA zlab) 23 := heap_alloc2_old _ _ _
    go_enter Try.func36, Try.ntmps36
    go_wp2_with (first | (refine wpList_fresh (by rfl) 23 (by rfl) _ fresh_lab ?_; simp only [Act.put, List.setIfInBounds_toArray, List.set_cons_succ, List.set_cons_zero]; try simp only [World.size_alloc]) | (refine wpList_zero (by rfl) 23 (by rfl) _ build_lab ?_; simp only [Act.put, List.setIfInBounds_toArray, List.set_cons_succ, List.set_cons_zero]) | ((refine wpList_store_blk (by rfl) 23 (.tmp 4) (.tmp 8) (by rfl) (0) (labA zlab) (by rfl) (by rfl) (b0) (by rw [labA_size]; omega) hz0 (labA_all _) ?_; simp only [Act.put]); intro w4 b4 o4; rw [splice_all _ _ rfl] at b4; replace b2 := b2.only o4 (by omega); replace hb := o4.below hb (by omega); clear o4) | (refine wpList_load_blk (by rfl) 23 (.tmp 4) (by rfl) 0 (by rfl) (b4) (labA zlab) whole_at _ Try.underlying23 (by rfl) hz0 ?_; simp only [Act.put, List.setIfInBounds_toArray, List.set_cons_succ, List.set_cons_zero]) | ((refine wpList_store_blk (by rfl) 23 (.tmp 2) (.tmp 12) (by rfl) (0) (labA zlab) (by rfl) (by rfl) (b2) (by rw [labA_size]; omega) hz0 (labA_all _) ?_; simp only [Act.put]); intro w5 b5 o5))
    rw [splice_all _ _ rfl] at b5
    refine bodyPost_ret (v := .tuple #[.agg (labA zlab), .bool false]) (results_blk2 (by rfl) _ b5 _ _ (by rfl) (by rfl) Try.underlying23 (by rfl) hz0) rfl ⟨?_, o5.below hb (by omega)⟩
    rw [hr.out.1, hr.out.2.2]
end Go.Proofs.Ytokjmdlklhkjlaa

/- The walks of prefixes: the reference's Set, Cut and Good; bits.Cut, Good, Has, Over, Next. -/
import Derived.Test.YtgjmnhbkdccgpaaWBits
import Derived.Test.YtgjmnhbkdccgpaaPureCut
namespace Go.Proofs.Ytgjmnhbkdccgpaa
open Go.RowKit

theorem build_lab (w : World) : (Instr.build 25 #[]).run Try.prog w = .ok (.agg (labA zlab)) w := by kernel_rfl
theorem blk_new3 (w : World) (o o2 : Obj) (cs : Array Value) (t : TypeId) : Blk (((w.alloc o).alloc o2).alloc (.cells cs t)) (w.heap.size + 1 + 1) cs t := by
  have := Blk.new ((w.alloc o).alloc o2) cs t
  rwa [World.size_alloc, World.size_alloc] at this
theorem fresh_lab1 (w : World) : (Instr.alloc 25 true (.tuple #[])).run Try.prog w = .ok (.pointer (some ⟨w.heap.size, 0, none⟩)) (w.alloc (.cells (labA zlab) 25)) := by kernel_rfl
theorem build_pref (w : World) : (Instr.build 63 #[]).run Try.prog w = .ok (.agg (prefA 0 zlab)) w := by kernel_rfl
theorem fresh_pref (w : World) : (Instr.alloc 63 true (.tuple #[])).run Try.prog w = .ok (.pointer (some ⟨w.heap.size, 0, none⟩)) (w.alloc (.cells (prefA 0 zlab) 63)) := by kernel_rfl

set_option maxRecDepth 100000 in
set_option maxHeartbeats 1000000 in
/-- The reference's Set. -/
theorem rset_any (l : List UInt8) (hl : l.length = 32) (i : Int) (h0 : 0 ≤ i) (h1 : i < 256) (w : World) :
    Calls Try.prog 132 #[.agg (labA l), .int .i64 i] w fun e w' => e = .returned (.agg (labA (B.setb l i.toNat))) ∧ Below w.heap.size w w' := by
  have hz : (Try.prog.info? 25).map (·.size) = some (labA l).size := by rw [labA_size, hl]; kernel_rfl
  go_enter Try.func132, Try.ntmps132
  go_wp2_with (refine wpList_fresh (by rfl) 25 (by rfl) _ fresh_lab1 ?_; simp only [Act.put, List.setIfInBounds_toArray, List.set_cons_succ, List.set_cons_zero]; try simp only [World.size_alloc])
  refine wp_world ?_
  intro W hW
  have b0 : Blk W w.heap.size (labA l) 25 := by rw [hW]; exact heap_alloc2_old _ _ _
  have b1 : Blk W (w.heap.size + 1) (labA zlab) 25 := by rw [hW]; exact heap_alloc2_new _ _ _
  have hb : Below w.heap.size w W := by rw [hW]; exact ((Below.refl _ _).alloc (Nat.le_refl _) _).alloc (by simp) _
  clear hW
  have hcell := b0.cellv (labA_get l (i / 8).toNat (by omega))
  go_loop [5, 6] (fun y j => ∃ k : Nat, i % 8 + (k : Int) ≤ 7 ∧ 2 ^ k < 256 ∧ y = .int .u8 ((2 ^ k : Nat) : Int) ∧ j = .int .i64 (i % 8 + (k : Int))) (fun _ j => (7 - intOf j).toNat)
  case atStart => exact ⟨0, by omega, by simp, by simp, by simp⟩
  case round =>
    obtain ⟨k, hk, hk2, rfl, rfl⟩ := hrel
    by_cases hlt : i % 8 + (k : Int) < 7
    · have hk3 := Lib.hid (show 2 ^ (k + 1) = 2 * 2 ^ k from by rw [Nat.pow_succ]; omega)
      have hk4 : 2 ^ k ≤ 64 := Nat.pow_le_pow_right (by omega) (by omega : k ≤ 6)
      generalize (2 ^ k : Nat) = z at hk2 hk3 hk4
      go_wp2
      go_round
      case rel => exact ⟨k + 1, by omega, by rw [hk3.out]; omega, by rw [hk3.out]; go_num, by go_num⟩
      case measure => simp [intOf]; omega
    · have hr := Lib.hid (rbit_in l hl i h0 h1)
      cases hb7 : B.bit l i.toNat with
      | true =>
        have hset := Lib.hid (B.setb_same l i.toNat hl (by omega) hb7)
        rw [hb7] at hr
        clear hb7
        go_wp2_with (first | (refine wpList_load_blk (by rfl) 25 (.tmp 2) (by rfl) 0 (by rfl) (b0) (labA l) whole_at _ Try.underlying25 (by rfl) hz ?_; simp only [Act.put, List.setIfInBounds_toArray, List.set_cons_succ, List.set_cons_zero]) | (go_at_call 111; with_reducible refine (hr.out _).mono ?_; rintro e w2 ⟨rfl, hb2⟩; have b02 := b0.at_ hb2; have b12 := b1.at_ hb2) | (refine wpList_load_blk (by rfl) 25 (.tmp 2) (by rfl) 0 (by rfl) (b02) (labA l) whole_at _ Try.underlying25 (by rfl) hz ?_; simp only [Act.put, List.setIfInBounds_toArray, List.set_cons_succ, List.set_cons_zero]) | ((refine wpList_store_blk (by rfl) 25 (.tmp 4) (.tmp 26) (by rfl) (0) (labA l) (by rfl) (by rfl) (b12) (by rw [labA_size, labA_size, hl, zlab_length]; omega) hz (labA_all _) ?_; simp only [Act.put]); intro w3 b13 o3))
        rw [splice_all _ _ (by rw [labA_size, labA_size, hl, zlab_length])] at b13
        refine bodyPost_ret (v := .agg (labA l)) (results_blk (by rfl) _ b13 _ (by rfl) Try.underlying25 (by rfl) hz) rfl ⟨?_, o3.below (hb.trans (hb2.mono hb.size)) (by omega)⟩
        rw [hset.out]
      | false =>
        have hadd := B.setb_add l i.toNat hb7
        rw [hb7] at hr
        clear hb7
        have ek : 7 - i.toNat % 8 = k := by omega
        rw [ek] at hadd
        have hset : (labA l).setIfInBounds (i / 8).toNat (.int .u8 (((l.getD (i.toNat / 8) 0).toNat : Int) + ((2 ^ k : Nat) : Int))) = labA (B.setb l i.toNat) := by
          have := labA_set l (i.toNat / 8) (l.getD (i.toNat / 8) 0 ||| UInt8.ofNat (2 ^ (7 - i.toNat % 8)))
          unfold B.setb
          rw [← this, show (i / 8).toNat = i.toNat / 8 from by omega]
          congr 1
          unfold byteV
          rw [ek, ← hadd]; congr 1
        have hsum : (l.getD (i.toNat / 8) 0).toNat + 2 ^ k < 256 := by rw [hadd]; exact UInt8.toNat_lt _
        clear hadd ek
        rw [show i.toNat / 8 = (i / 8).toNat from by omega] at hset hsum
        generalize (2 ^ k : Nat) = p at hk2 hset hsum
        generalize (l.getD (i / 8).toNat 0).toNat = x at hcell hset hsum
        have Hset := Lib.hid hset
        clear hset
        have hzs : (Try.prog.info? 25).map (·.size) = some (labA (B.setb l i.toNat)).size := by rw [labA_size, B.setb_length, hl]; kernel_rfl
        go_wp2_with (first | (refine wpList_load_blk (by rfl) 25 (.tmp 2) (by rfl) 0 (by rfl) (b0) (labA l) whole_at _ Try.underlying25 (by rfl) hz ?_; simp only [Act.put, List.setIfInBounds_toArray, List.set_cons_succ, List.set_cons_zero]) | (go_at_call 111; with_reducible refine (hr.out _).mono ?_; rintro e w2 ⟨rfl, hb2⟩; have b02 := b0.at_ hb2; have b12 := b1.at_ hb2; have c2 := (hb2.cell (p := ⟨w.heap.size, (i / 8).toNat, none⟩) b0.lt).trans hcell; have f2 := b02.free (i / 8).toNat) | (refine wpList_load_blk (by rfl) 25 (.tmp 2) (by rfl) 0 (by rfl) ((by have h9 := b02.set_ (i / 8).toNat (.int .u8 ((x : Int) + (p : Int))); rw [Hset.out] at h9; exact h9)) (labA (B.setb l i.toNat)) whole_at _ Try.underlying25 (by rfl) hzs ?_; simp only [Act.put, List.setIfInBounds_toArray, List.set_cons_succ, List.set_cons_zero]) | ((refine wpList_store_blk (by rfl) 25 (.tmp 4) (.tmp 26) (by rfl) (0) (labA (B.setb l i.toNat)) (by rfl) (by rfl) ((b12.far (p := ⟨w.heap.size, (i / 8).toNat, none⟩) (by simp) _)) (by rw [labA_size, labA_size, B.setb_length, hl, zlab_length]; omega) hzs (labA_all _) ?_; simp only [Act.put]); intro w3 b13 o3))
        rw [splice_all _ _ (by rw [labA_size, labA_size, B.setb_length, hl, zlab_length])] at b13
        refine bodyPost_ret (v := .agg (labA (B.setb l i.toNat))) (results_blk (by rfl) _ b13 _ (by rfl) Try.underlying25 (by rfl) hzs) rfl ⟨rfl, o3.below ((hb.trans (hb2.mono hb.size)).setCell (by simp) _) (by omega)⟩

set_option maxRecDepth 100000 in
set_option maxHeartbeats 1000000 in
/-- The reference's Cut. -/
theorem rcut_any (l : List UInt8) (hl : l.length = 32) (n : Int) (w : World) :
    Calls Try.prog 128 #[.agg (labA l), .int .i64 n] w fun e w' => e = .returned (.agg (labA (B.cut l (min n.toNat 256)))) ∧ Below w.heap.size w w' := by
  have hz : (Try.prog.info? 25).map (·.size) = some (labA l).size := by rw [labA_size, hl]; kernel_rfl
  have hzc : ∀ k, (Try.prog.info? 25).map (·.size) = some (labA (B.cut l k)).size := fun k => by rw [labA_size, B.cut_length]; kernel_rfl
  go_enter Try.func128, Try.ntmps128
  go_wp2_with (first | (refine wpList_fresh (by rfl) 25 (by rfl) _ fresh_lab1 ?_; simp only [Act.put, List.setIfInBounds_toArray, List.set_cons_succ, List.set_cons_zero]; try simp only [World.size_alloc]) | (refine wpList_zero (by rfl) 25 (by rfl) _ build_lab ?_; simp only [Act.put, List.setIfInBounds_toArray, List.set_cons_succ, List.set_cons_zero]) | ((refine wpList_store_blk (by rfl) 25 (.tmp 5) (.tmp 7) (by rfl) (0) (labA zlab) (by rfl) (by rfl) ((blk_new3 w _ _ _ _)) (by rw [labA_size]; omega) (by rw [labA_size]; kernel_rfl) (labA_all _) ?_; simp only [Act.put]); intro w1 b12 o1))
  rw [splice_all _ _ rfl] at b12
  have b01 : Blk w1 w.heap.size (labA l) 25 := Blk.only (((Blk.new w (labA l) 25).alloc _).alloc _) o1 (by simp; omega)
  have b11 : Blk w1 (w.heap.size + 1) (labA zlab) 25 := Blk.only (Blk.alloc (heap_alloc2_new _ _ _) _) o1 (by simp)
  have hb1 : Below w.heap.size w w1 := o1.below ((((Below.refl _ _).alloc (Nat.le_refl _) _).alloc (by simp) _).alloc (by simp; omega) _) (by omega)
  try simp only [World.size_alloc] at b12
  clear o1
  go_loopw [6] (fun v wr => ∃ k : Nat, k ≤ 256 ∧ (k = 0 ∨ (k : Int) ≤ n) ∧ v = .int .i64 (k : Int) ∧ Blk wr w.heap.size (labA l) 25 ∧ Blk wr (w.heap.size + 1) (labA zlab) 25 ∧ Blk wr (w.heap.size + 1 + 1) (labA (B.cut l k)) 25 ∧ Below w.heap.size w wr) (fun v _ => 256 - (intOf v).toNat)
  case atStart => exact ⟨0, by omega, .inl rfl, by simp, b01, b11, by rw [B.cut_zero]; exact b12, hb1⟩
  case round =>
    clear b01 b11 b12 hb1
    obtain ⟨k, hk, hkn, rfl, b0, b1, b2, hb⟩ := hrel
    by_cases hlt : (k : Int) < n ∧ k < 256
    · obtain ⟨hn, hlt⟩ := hlt
      have hr := rbit_in l hl (k : Int) (by omega) (by omega)
      rw [Int.toNat_natCast] at hr
      have hlt2 : (k : Int) < 256 := by omega
      cases hbit : B.bit l k with
      | true =>
        have hset := Lib.hid (B.cut_set l k hlt hbit)
        rw [hbit] at hr
        have Hr := Lib.hid hr
        clear hbit hr
        go_wp2_with (first | (refine wpList_load_blk (by rfl) 25 (.tmp 2) (by rfl) 0 (by rfl) (b0) (labA l) whole_at _ Try.underlying25 (by rfl) hz ?_; simp only [Act.put, List.setIfInBounds_toArray, List.set_cons_succ, List.set_cons_zero]) | (go_at_call 111; with_reducible refine (Hr.out _).mono ?_; rintro e w2 ⟨rfl, hb2⟩; have b02 := b0.at_ hb2; have b12 := b1.at_ hb2; have b22 := b2.at_ hb2) | (refine wpList_load_blk (by rfl) 25 (.tmp 5) (by rfl) 0 (by rfl) (b22) (labA (B.cut l k)) whole_at _ Try.underlying25 (by rfl) (hzc k) ?_; simp only [Act.put, List.setIfInBounds_toArray, List.set_cons_succ, List.set_cons_zero]) | (go_at_call 132; with_reducible refine (rset_any (B.cut l k) (B.cut_length _ _) (k : Int) (by omega) (by omega) _).mono ?_; rintro e w3 ⟨rfl, hb3⟩; rw [Int.toNat_natCast, hset.out]; have b03 := b02.at_ hb3; have b13 := b12.at_ hb3; have b23 := b22.at_ hb3) | ((refine wpList_store_blk (by rfl) 25 (.tmp 5) (.tmp 23) (by rfl) (0) (labA (B.cut l (k + 1))) (by rfl) (by rfl) (b23) (by rw [labA_size, labA_size, B.cut_length, B.cut_length]; omega) (hzc _) (labA_all _) ?_; simp only [Act.put]); intro w4 b24 o4))
        rw [splice_all _ _ (by rw [labA_size, labA_size, B.cut_length, B.cut_length])] at b24
        go_roundw
        case rel => exact ⟨k + 1, by omega, .inr (by omega), by go_num, b03.only o4 (by omega), b13.only o4 (by omega), b24, o4.below ((hb.trans (hb2.mono hb.size)).trans (hb3.mono (by have := hb.size; have := hb2.size; omega))) (by omega)⟩
        case measure => simp [intOf]; omega
      | false =>
        have hset := B.cut_skip l k hlt hbit
        rw [hbit] at hr
        rw [hset] at b2
        have Hr := Lib.hid hr
        clear hbit hr hset
        go_wp2_with (first | (refine wpList_load_blk (by rfl) 25 (.tmp 2) (by rfl) 0 (by rfl) (b0) (labA l) whole_at _ Try.underlying25 (by rfl) hz ?_; simp only [Act.put, List.setIfInBounds_toArray, List.set_cons_succ, List.set_cons_zero]) | (go_at_call 111; with_reducible refine (Hr.out _).mono ?_; rintro e w2 ⟨rfl, hb2⟩))
        go_roundw
        case rel => exact ⟨k + 1, by omega, .inr (by omega), by go_num, b0.at_ hb2, b1.at_ hb2, b2.at_ hb2, hb.trans (hb2.mono hb.size)⟩
        case measure => simp [intOf]; omega
    · have hmin : min n.toNat 256 = k := by omega
      have hfin := Lib.hid hmin
      clear hmin hkn
      rcases Int.lt_or_le (k : Int) n with h1 | h1
      · have h2 : (256 : Int) ≤ (k : Int) := by omega
        have h3 : decide ((k : Int) < 256) = false := by simp; omega
        clear hlt hk
        go_wp2_with (first | (refine wpList_load_blk (by rfl) 25 (.tmp 5) (by rfl) 0 (by rfl) (b2) (labA (B.cut l k)) whole_at _ Try.underlying25 (by rfl) (hzc k) ?_; simp only [Act.put, List.setIfInBounds_toArray, List.set_cons_succ, List.set_cons_zero]) | ((refine wpList_store_blk (by rfl) 25 (.tmp 4) (.tmp 24) (by rfl) (0) (labA (B.cut l k)) (by rfl) (by rfl) (b1) (by rw [labA_size, labA_size, B.cut_length, zlab_length]; omega) (hzc _) (labA_all _) ?_; simp only [Act.put]); intro w4 b24 o4))
        rw [splice_all _ _ (by rw [labA_size, labA_size, B.cut_length, zlab_length])] at b24
        rw [← hfin.out] at b24
        exact bodyPost_ret (v := .agg (labA (B.cut l (min n.toNat 256)))) (results_blk (by rfl) _ b24 _ (by rfl) Try.underlying25 (by rfl) (hzc _)) rfl ⟨rfl, o4.below hb (by omega)⟩
      · clear hlt
        go_wp2_with (first | (refine wpList_load_blk (by rfl) 25 (.tmp 5) (by rfl) 0 (by rfl) (b2) (labA (B.cut l k)) whole_at _ Try.underlying25 (by rfl) (hzc k) ?_; simp only [Act.put, List.setIfInBounds_toArray, List.set_cons_succ, List.set_cons_zero]) | ((refine wpList_store_blk (by rfl) 25 (.tmp 4) (.tmp 24) (by rfl) (0) (labA (B.cut l k)) (by rfl) (by rfl) (b1) (by rw [labA_size, labA_size, B.cut_length, zlab_length]; omega) (hzc _) (labA_all _) ?_; simp only [Act.put]); intro w4 b24 o4))
        rw [splice_all _ _ (by rw [labA_size, labA_size, B.cut_length, zlab_length])] at b24
        rw [← hfin.out] at b24
        exact bodyPost_ret (v := .agg (labA (B.cut l (min n.toNat 256)))) (results_blk (by rfl) _ b24 _ (by rfl) Try.underlying25 (by rfl) (hzc _)) rfl ⟨rfl, o4.below hb (by omega)⟩
end Go.Proofs.Ytgjmnhbkdccgpaa

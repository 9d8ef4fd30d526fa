/- BitsNext: a prefix grows by a bit as the document says: for any prefix and any number as a bit. No condition. -/
import Derived.Test.YtokjmdlklhkjlaaWAwake1
import Derived.Test.YtokjmdlklhkjlaaOpenB
namespace Go.Proofs.Ytokjmdlklhkjlaa
open Go.ChangeShapes Go.WideShapes Go.ChangeAt Go.RowKit

theorem eq_zlab (w : World) : (binOp .eql 29 (.agg (prefA 0 zlab)) (.agg (prefA 0 zlab))).run Try.prog w = .ok (.bool true) w := by
  rw [eql29 0 0 _ _ zlab_length zlab_length (by decide) (by decide) w]; simp

set_option maxHeartbeats 4000000 in
theorem bnext_no (n : Int) (hn : (Lit.int .i64 n).wf = true) (p : List UInt8) (hp : p.length = 32) (b : Int) (h : mayGrow n p b = false) (w : World) :
    Calls Try.prog 4 #[.agg (prefA n p), .int .i64 b] w fun e w' => e = .returned (.bool true) ∧ Below w.heap.size w w' := by
  have hzp : (Try.prog.info? 29).map (·.size) = some (prefA n p).size := by rw [prefA_size, hp]; kernel_rfl
  have hz23 : (Try.prog.info? 23).map (·.size) = some (labA p).size := by rw [labA_size, hp]; kernel_rfl
  have hz0 : (Try.prog.info? 29).map (·.size) = some (prefA 0 zlab).size := by rw [prefA_size, zlab_length]; kernel_rfl
  have bP : Blk (w.alloc (.cells (prefA n p) 29)) w.heap.size (prefA n p) 29 := Blk.new _ _ _
  have HN := Lib.hid (next_no n hn p hp b h)
  have hgc := rgood_any n p hp
  unfold mayGrow at h
  cases hg : B.good n p with
  | false =>
    rw [hg] at hgc
    have Hg := Lib.hid hgc
    clear hgc h hg
    go_enter Try.func4, Try.ntmps4
    go_wp2_with (first | (refine wpList_load_blk (by rfl) 29 (.tmp 2) (by rfl) 0 (by rfl) (bP) (prefA n p) whole_at _ Try.underlying29 (by rfl) hzp ?_; simp only [Act.put, List.setIfInBounds_toArray, List.set_cons_succ, List.set_cons_zero]) | (go_at_call 19; with_reducible refine (HN.out _).mono ?_; rintro e wn ⟨rfl, hbn⟩; replace bP := bP.at_ hbn; have hb := ((Below.refl w.heap.size w).alloc (Nat.le_refl _) _).trans (hbn.mono (by simp)); clear hbn) | (refine wpList_fresh (by rfl) 29 (by rfl) _ fresh_pref ?_; simp only [Act.put, List.setIfInBounds_toArray, List.set_cons_succ, List.set_cons_zero]; try simp only [World.size_alloc]) | ((refine wpList_store_blk (by rfl) 29 (.tmp 5) (.tmp 12) (by rfl) (0) (prefA 0 zlab) (by rfl) (by rfl) ((Blk.new _ _ _)) (by rw [prefA_size]; omega) hz0 (prefA_all _ _) ?_; simp only [Act.put]); intro w5 bQ o5; rw [splice_all _ _ rfl] at bQ; have hlP := bP.lt; replace bP := (bP.alloc _).only o5 (by omega); replace hb := o5.below (hb.alloc hb.size _) (by omega); clear o5; have kP := bP.cellv (prefA_0 n p)) | (refine wpList_load_blk (by rfl) 23 (.tmp 16) (by rfl) (1) (by rfl) (bP) (labA p) (prefA_lab n p) _ Try.underlying23 (by rfl) hz23 ?_; simp only [Act.put, List.setIfInBounds_toArray, List.set_cons_succ, List.set_cons_zero]) | ((go_at_call 20; with_reducible refine (Hg.out _).mono ?_; rintro e wn ⟨rfl, hbn⟩; replace bP := bP.at_ hbn; replace bQ := bQ.at_ hbn; replace hb := hb.trans (hbn.mono hb.size); clear hbn); have kP := bP.cellv (prefA_0 n p)) | (go_at_call 12; with_reducible refine (awake_any _).mono ?_; rintro e wn ⟨rfl, hbn⟩; replace bP := bP.at_ hbn; replace bQ := bQ.at_ hbn; replace hb := hb.trans (hbn.mono hb.size); clear hbn) | (refine wpList_load_blk (by rfl) 29 (.tmp 5) (by rfl) 0 (by rfl) (bQ) (prefA 0 zlab) whole_at _ Try.underlying29 (by rfl) hz0 ?_; simp only [Act.put, List.setIfInBounds_toArray, List.set_cons_succ, List.set_cons_zero]) | (refine wpList_zero (by rfl) 29 (by rfl) _ build_pref ?_; simp only [Act.put, List.setIfInBounds_toArray, List.set_cons_succ, List.set_cons_zero]) | (refine wpList_bin (by rfl) .eql 29 29 (.tmp 39) (.tmp 40) (by rfl) (prefA 0 zlab) (prefA 0 zlab) (by rfl) (by rfl) guard29 (.bool true) (eq_zlab) ?_; simp only [Act.put, List.setIfInBounds_toArray, List.set_cons_succ, List.set_cons_zero]))
    go_ret
    exact ⟨rfl, hb⟩
  | true =>
    rw [hg] at hgc h
    have Hg := Lib.hid hgc
    clear hgc hg
    rcases Int.lt_or_le n 256 with h1 | h1
    · have d1 : decide (255 < n) = false := by simp; omega
      rcases Int.lt_or_le b 0 with h2 | h2
      · have d2 : decide (b < 0) = true := by simpa using h2
        clear h
        go_enter Try.func4, Try.ntmps4
        go_wp2_with (first | (refine wpList_load_blk (by rfl) 29 (.tmp 2) (by rfl) 0 (by rfl) (bP) (prefA n p) whole_at _ Try.underlying29 (by rfl) hzp ?_; simp only [Act.put, List.setIfInBounds_toArray, List.set_cons_succ, List.set_cons_zero]) | (go_at_call 19; with_reducible refine (HN.out _).mono ?_; rintro e wn ⟨rfl, hbn⟩; replace bP := bP.at_ hbn; have hb := ((Below.refl w.heap.size w).alloc (Nat.le_refl _) _).trans (hbn.mono (by simp)); clear hbn) | (refine wpList_fresh (by rfl) 29 (by rfl) _ fresh_pref ?_; simp only [Act.put, List.setIfInBounds_toArray, List.set_cons_succ, List.set_cons_zero]; try simp only [World.size_alloc]) | ((refine wpList_store_blk (by rfl) 29 (.tmp 5) (.tmp 12) (by rfl) (0) (prefA 0 zlab) (by rfl) (by rfl) ((Blk.new _ _ _)) (by rw [prefA_size]; omega) hz0 (prefA_all _ _) ?_; simp only [Act.put]); intro w5 bQ o5; rw [splice_all _ _ rfl] at bQ; have hlP := bP.lt; replace bP := (bP.alloc _).only o5 (by omega); replace hb := o5.below (hb.alloc hb.size _) (by omega); clear o5; have kP := bP.cellv (prefA_0 n p)) | (refine wpList_load_blk (by rfl) 23 (.tmp 16) (by rfl) (1) (by rfl) (bP) (labA p) (prefA_lab n p) _ Try.underlying23 (by rfl) hz23 ?_; simp only [Act.put, List.setIfInBounds_toArray, List.set_cons_succ, List.set_cons_zero]) | ((go_at_call 20; with_reducible refine (Hg.out _).mono ?_; rintro e wn ⟨rfl, hbn⟩; replace bP := bP.at_ hbn; replace bQ := bQ.at_ hbn; replace hb := hb.trans (hbn.mono hb.size); clear hbn); have kP := bP.cellv (prefA_0 n p)) | (go_at_call 12; with_reducible refine (awake_any _).mono ?_; rintro e wn ⟨rfl, hbn⟩; replace bP := bP.at_ hbn; replace bQ := bQ.at_ hbn; replace hb := hb.trans (hbn.mono hb.size); clear hbn) | (refine wpList_load_blk (by rfl) 29 (.tmp 5) (by rfl) 0 (by rfl) (bQ) (prefA 0 zlab) whole_at _ Try.underlying29 (by rfl) hz0 ?_; simp only [Act.put, List.setIfInBounds_toArray, List.set_cons_succ, List.set_cons_zero]) | (refine wpList_zero (by rfl) 29 (by rfl) _ build_pref ?_; simp only [Act.put, List.setIfInBounds_toArray, List.set_cons_succ, List.set_cons_zero]) | (refine wpList_bin (by rfl) .eql 29 29 (.tmp 39) (.tmp 40) (by rfl) (prefA 0 zlab) (prefA 0 zlab) (by rfl) (by rfl) guard29 (.bool true) (eq_zlab) ?_; simp only [Act.put, List.setIfInBounds_toArray, List.set_cons_succ, List.set_cons_zero]))
        go_ret
        exact ⟨rfl, hb⟩
      · have d2 : decide (b < 0) = false := by simp; omega
        have d3 : decide (1 < b) = true := by
          rw [decide_eq_true h1, decide_eq_true h2] at h
          simpa using h
        clear h
        go_enter Try.func4, Try.ntmps4
        go_wp2_with (first | (refine wpList_load_blk (by rfl) 29 (.tmp 2) (by rfl) 0 (by rfl) (bP) (prefA n p) whole_at _ Try.underlying29 (by rfl) hzp ?_; simp only [Act.put, List.setIfInBounds_toArray, List.set_cons_succ, List.set_cons_zero]) | (go_at_call 19; with_reducible refine (HN.out _).mono ?_; rintro e wn ⟨rfl, hbn⟩; replace bP := bP.at_ hbn; have hb := ((Below.refl w.heap.size w).alloc (Nat.le_refl _) _).trans (hbn.mono (by simp)); clear hbn) | (refine wpList_fresh (by rfl) 29 (by rfl) _ fresh_pref ?_; simp only [Act.put, List.setIfInBounds_toArray, List.set_cons_succ, List.set_cons_zero]; try simp only [World.size_alloc]) | ((refine wpList_store_blk (by rfl) 29 (.tmp 5) (.tmp 12) (by rfl) (0) (prefA 0 zlab) (by rfl) (by rfl) ((Blk.new _ _ _)) (by rw [prefA_size]; omega) hz0 (prefA_all _ _) ?_; simp only [Act.put]); intro w5 bQ o5; rw [splice_all _ _ rfl] at bQ; have hlP := bP.lt; replace bP := (bP.alloc _).only o5 (by omega); replace hb := o5.below (hb.alloc hb.size _) (by omega); clear o5; have kP := bP.cellv (prefA_0 n p)) | (refine wpList_load_blk (by rfl) 23 (.tmp 16) (by rfl) (1) (by rfl) (bP) (labA p) (prefA_lab n p) _ Try.underlying23 (by rfl) hz23 ?_; simp only [Act.put, List.setIfInBounds_toArray, List.set_cons_succ, List.set_cons_zero]) | ((go_at_call 20; with_reducible refine (Hg.out _).mono ?_; rintro e wn ⟨rfl, hbn⟩; replace bP := bP.at_ hbn; replace bQ := bQ.at_ hbn; replace hb := hb.trans (hbn.mono hb.size); clear hbn); have kP := bP.cellv (prefA_0 n p)) | (go_at_call 12; with_reducible refine (awake_any _).mono ?_; rintro e wn ⟨rfl, hbn⟩; replace bP := bP.at_ hbn; replace bQ := bQ.at_ hbn; replace hb := hb.trans (hbn.mono hb.size); clear hbn) | (refine wpList_load_blk (by rfl) 29 (.tmp 5) (by rfl) 0 (by rfl) (bQ) (prefA 0 zlab) whole_at _ Try.underlying29 (by rfl) hz0 ?_; simp only [Act.put, List.setIfInBounds_toArray, List.set_cons_succ, List.set_cons_zero]) | (refine wpList_zero (by rfl) 29 (by rfl) _ build_pref ?_; simp only [Act.put, List.setIfInBounds_toArray, List.set_cons_succ, List.set_cons_zero]) | (refine wpList_bin (by rfl) .eql 29 29 (.tmp 39) (.tmp 40) (by rfl) (prefA 0 zlab) (prefA 0 zlab) (by rfl) (by rfl) guard29 (.bool true) (eq_zlab) ?_; simp only [Act.put, List.setIfInBounds_toArray, List.set_cons_succ, List.set_cons_zero]))
        go_ret
        exact ⟨rfl, hb⟩
    · have d1 : decide (255 < n) = true := by simp; omega
      clear h
      go_enter Try.func4, Try.ntmps4
      go_wp2_with (first | (refine wpList_load_blk (by rfl) 29 (.tmp 2) (by rfl) 0 (by rfl) (bP) (prefA n p) whole_at _ Try.underlying29 (by rfl) hzp ?_; simp only [Act.put, List.setIfInBounds_toArray, List.set_cons_succ, List.set_cons_zero]) | (go_at_call 19; with_reducible refine (HN.out _).mono ?_; rintro e wn ⟨rfl, hbn⟩; replace bP := bP.at_ hbn; have hb := ((Below.refl w.heap.size w).alloc (Nat.le_refl _) _).trans (hbn.mono (by simp)); clear hbn) | (refine wpList_fresh (by rfl) 29 (by rfl) _ fresh_pref ?_; simp only [Act.put, List.setIfInBounds_toArray, List.set_cons_succ, List.set_cons_zero]; try simp only [World.size_alloc]) | ((refine wpList_store_blk (by rfl) 29 (.tmp 5) (.tmp 12) (by rfl) (0) (prefA 0 zlab) (by rfl) (by rfl) ((Blk.new _ _ _)) (by rw [prefA_size]; omega) hz0 (prefA_all _ _) ?_; simp only [Act.put]); intro w5 bQ o5; rw [splice_all _ _ rfl] at bQ; have hlP := bP.lt; replace bP := (bP.alloc _).only o5 (by omega); replace hb := o5.below (hb.alloc hb.size _) (by omega); clear o5; have kP := bP.cellv (prefA_0 n p)) | (refine wpList_load_blk (by rfl) 23 (.tmp 16) (by rfl) (1) (by rfl) (bP) (labA p) (prefA_lab n p) _ Try.underlying23 (by rfl) hz23 ?_; simp only [Act.put, List.setIfInBounds_toArray, List.set_cons_succ, List.set_cons_zero]) | ((go_at_call 20; with_reducible refine (Hg.out _).mono ?_; rintro e wn ⟨rfl, hbn⟩; replace bP := bP.at_ hbn; replace bQ := bQ.at_ hbn; replace hb := hb.trans (hbn.mono hb.size); clear hbn); have kP := bP.cellv (prefA_0 n p)) | (go_at_call 12; with_reducible refine (awake_any _).mono ?_; rintro e wn ⟨rfl, hbn⟩; replace bP := bP.at_ hbn; replace bQ := bQ.at_ hbn; replace hb := hb.trans (hbn.mono hb.size); clear hbn) | (refine wpList_load_blk (by rfl) 29 (.tmp 5) (by rfl) 0 (by rfl) (bQ) (prefA 0 zlab) whole_at _ Try.underlying29 (by rfl) hz0 ?_; simp only [Act.put, List.setIfInBounds_toArray, List.set_cons_succ, List.set_cons_zero]) | (refine wpList_zero (by rfl) 29 (by rfl) _ build_pref ?_; simp only [Act.put, List.setIfInBounds_toArray, List.set_cons_succ, List.set_cons_zero]) | (refine wpList_bin (by rfl) .eql 29 29 (.tmp 39) (.tmp 40) (by rfl) (prefA 0 zlab) (prefA 0 zlab) (by rfl) (by rfl) guard29 (.bool true) (eq_zlab) ?_; simp only [Act.put, List.setIfInBounds_toArray, List.set_cons_succ, List.set_cons_zero]))
      go_ret
      exact ⟨rfl, hb⟩

theorem eq_same (n : Int) (l : List UInt8) (hl : l.length = 32) (hn : (Lit.int .i64 n).wf = true) (w : World) : (binOp .eql 29 (.agg (prefA n l)) (.agg (prefA n l))).run Try.prog w = .ok (.bool true) w := by
  rw [eql29 n n l l hl hl hn hn w]; simp

set_option maxHeartbeats 4000000 in
theorem bnext_yes (N : Nat) (p : List UInt8) (hp : p.length = 32) (b : Int) (hb01 : b = 0 ∨ b = 1) (hN : N < 256) (hgood : B.good N p = true) (w : World) :
    Calls Try.prog 4 #[.agg (prefA N p), .int .i64 b] w fun e w' => e = .returned (.bool true) ∧ Below w.heap.size w w' := by
  have hzp : ∀ (k : Int) (q : List UInt8), q.length = 32 → (Try.prog.info? 29).map (·.size) = some (prefA k q).size := fun k q hq => by rw [prefA_size, hq]; kernel_rfl
  have hz23 : ∀ (q : List UInt8), q.length = 32 → (Try.prog.info? 23).map (·.size) = some (labA q).size := fun q hq => by rw [labA_size, hq]; kernel_rfl
  have bP : Blk (w.alloc (.cells (prefA N p) 29)) w.heap.size (prefA N p) 29 := Blk.new _ _ _
  have hgc := rgood_any N p hp
  rw [hgood] at hgc
  have Hg := Lib.hid hgc
  have Hs := Lib.hid (rset_any p hp N (by omega) (by omega))
  have hls : (B.setb p N).length = 32 := by rw [B.setb_length, hp]
  have d1 : decide ((255 : Int) < N) = false := by simp; omega
  have N0 : ∀ w, Calls Try.prog 19 #[.agg (prefA N p), .int .i64 0] w fun e w' => e = .returned (.tuple #[.agg (prefA ((N : Int) + 1) p), .int .i64 0]) ∧ Below w.heap.size w w' := fun w => by
    have h := next_yes N p hp 0 (by omega) hN hgood w
    rw [show B.nextB N p ((0 : Nat) : Int) = p from by unfold B.nextB; rw [if_neg (by decide)]] at h
    exact h
  have N1 : ∀ w, Calls Try.prog 19 #[.agg (prefA N p), .int .i64 1] w fun e w' => e = .returned (.tuple #[.agg (prefA ((N : Int) + 1) (B.setb p N)), .int .i64 0]) ∧ Below w.heap.size w w' := fun w => by
    have h := next_yes N p hp 1 (by omega) hN hgood w
    rw [show B.nextB N p ((1 : Nat) : Int) = B.setb p N from by unfold B.nextB; rw [if_pos (by decide)]] at h
    exact h
  clear hgc hgood
  have hwf : (Lit.int .i64 ((N : Int) + 1)).wf = true := by go_wf
  rcases hb01 with rfl | rfl
  · have HN := Lib.hid N0
    clear N0 N1
    go_enter Try.func4, Try.ntmps4
    go_wp2_with (first | (refine wpList_load_blk (by rfl) 29 (.tmp 2) (by rfl) 0 (by rfl) (bP) (prefA N p) whole_at _ Try.underlying29 (by rfl) (hzp N p hp) ?_; simp only [Act.put, List.setIfInBounds_toArray, List.set_cons_succ, List.set_cons_zero]) | (go_at_call 19; with_reducible refine (HN.out _).mono ?_; rintro e wn ⟨rfl, hbn⟩; replace bP := bP.at_ hbn; have hb := ((Below.refl w.heap.size w).alloc (Nat.le_refl _) _).trans (hbn.mono (by simp)); clear hbn) | (refine wpList_fresh (by rfl) 29 (by rfl) _ fresh_pref ?_; simp only [Act.put, List.setIfInBounds_toArray, List.set_cons_succ, List.set_cons_zero]; try simp only [World.size_alloc]) | (refine wpList_fresh (by rfl) 23 (by rfl) _ fresh_lab ?_; simp only [Act.put, List.setIfInBounds_toArray, List.set_cons_succ, List.set_cons_zero]; try simp only [World.size_alloc]) | ((refine wpList_store_blk (by rfl) 29 (.tmp 5) (.tmp 12) (by rfl) (0) (prefA ((N : Int) + 1) (p)) (by rfl) (by rfl) ((Blk.new _ _ _)) (by rw [prefA_size, prefA_size, zlab_length, hp]; omega) (hzp _ _ hp) (prefA_all _ _) ?_; simp only [Act.put]); intro w5 bQ o5; rw [splice_all _ _ (by rw [prefA_size, prefA_size, zlab_length, hp])] at bQ; have hlP := bP.lt; replace bP := (bP.alloc _).only o5 (by omega); replace hb := o5.below (hb.alloc hb.size _) (by omega); clear o5; have kP := bP.cellv (prefA_0 N p)) | (refine wpList_load_blk (by rfl) 23 (.tmp 16) (by rfl) (1) (by rfl) (bP) (labA p) (prefA_lab N p) _ Try.underlying23 (by rfl) (hz23 p hp) ?_; simp only [Act.put, List.setIfInBounds_toArray, List.set_cons_succ, List.set_cons_zero]) | (refine wpList_load_blk (by rfl) 23 (.tmp 43) (by rfl) (1) (by rfl) (bP) (labA p) (prefA_lab N p) _ Try.underlying23 (by rfl) (hz23 p hp) ?_; simp only [Act.put, List.setIfInBounds_toArray, List.set_cons_succ, List.set_cons_zero]) | ((go_at_call 20; with_reducible refine (Hg.out _).mono ?_; rintro e wn ⟨rfl, hbn⟩; replace bP := bP.at_ hbn; replace bQ := bQ.at_ hbn; replace hb := hb.trans (hbn.mono hb.size); clear hbn); have kP := bP.cellv (prefA_0 N p)) | ((refine wpList_store_blk (by rfl) 23 (.tmp 7) (.tmp 44) (by rfl) (0) (labA p) (by rfl) (by rfl) ((Blk.new _ _ _)) (by rw [labA_size, labA_size, zlab_length, hp]; omega) (hz23 _ hp) (labA_all _) ?_; simp only [Act.put]); intro w5 bR o5; rw [splice_all _ _ (by rw [labA_size, labA_size, zlab_length, hp])] at bR; have hlP := bP.lt; have hlQ := bQ.lt; replace bP := (bP.alloc _).only o5 (by omega); replace bQ := (bQ.alloc _).only o5 (by omega); replace hb := o5.below (hb.alloc hb.size _) (by omega); clear o5; have kP := bP.cellv (prefA_0 N p)) | (refine wpList_load_blk (by rfl) 23 (.tmp 7) (by rfl) 0 (by rfl) (bR) (labA p) whole_at _ Try.underlying23 (by rfl) (hz23 p hp) ?_; simp only [Act.put, List.setIfInBounds_toArray, List.set_cons_succ, List.set_cons_zero]) | (refine wpList_load_blk (by rfl) 23 (.tmp 7) (by rfl) 0 (by rfl) (bR) (labA (p)) whole_at _ Try.underlying23 (by rfl) (hz23 _ hp) ?_; simp only [Act.put, List.setIfInBounds_toArray, List.set_cons_succ, List.set_cons_zero]) | (go_at_call 12; with_reducible refine (awake_any _).mono ?_; rintro e wn ⟨rfl, hbn⟩; replace bP := bP.at_ hbn; replace bQ := bQ.at_ hbn; replace bR := bR.at_ hbn; replace hb := hb.trans (hbn.mono hb.size); clear hbn; have kP := bP.cellv (prefA_0 N p)) | (refine wpList_load_blk (by rfl) 29 (.tmp 5) (by rfl) 0 (by rfl) (bQ) (prefA ((N : Int) + 1) (p)) whole_at _ Try.underlying29 (by rfl) (hzp _ _ hp) ?_; simp only [Act.put, List.setIfInBounds_toArray, List.set_cons_succ, List.set_cons_zero]) | (refine wpList_build (by rfl) 29 ([(0, .tmp 60), (1, .tmp 61)]) (by rfl) ([(0, .int .i64 ((N : Int) + 1)), (1, .agg (labA (p)))]) (by rfl) (.agg (prefA ((N : Int) + 1) (p))) (build_pref2 _ _ hp) ?_; simp only [Act.put, List.setIfInBounds_toArray, List.set_cons_succ, List.set_cons_zero]) | (refine wpList_bin (by rfl) .eql 29 29 (.tmp 57) (.tmp 62) (by rfl) (prefA ((N : Int) + 1) (p)) (prefA ((N : Int) + 1) (p)) (by rfl) (by rfl) guard29 (.bool true) (eq_same _ _ hp hwf) ?_; simp only [Act.put, List.setIfInBounds_toArray, List.set_cons_succ, List.set_cons_zero]))
    go_ret
    exact ⟨rfl, hb⟩
  · have HN := Lib.hid N1
    clear N0 N1
    go_enter Try.func4, Try.ntmps4
    go_wp2_with (first | (refine wpList_load_blk (by rfl) 29 (.tmp 2) (by rfl) 0 (by rfl) (bP) (prefA N p) whole_at _ Try.underlying29 (by rfl) (hzp N p hp) ?_; simp only [Act.put, List.setIfInBounds_toArray, List.set_cons_succ, List.set_cons_zero]) | (go_at_call 19; with_reducible refine (HN.out _).mono ?_; rintro e wn ⟨rfl, hbn⟩; replace bP := bP.at_ hbn; have hb := ((Below.refl w.heap.size w).alloc (Nat.le_refl _) _).trans (hbn.mono (by simp)); clear hbn) | (refine wpList_fresh (by rfl) 29 (by rfl) _ fresh_pref ?_; simp only [Act.put, List.setIfInBounds_toArray, List.set_cons_succ, List.set_cons_zero]; try simp only [World.size_alloc]) | (refine wpList_fresh (by rfl) 23 (by rfl) _ fresh_lab ?_; simp only [Act.put, List.setIfInBounds_toArray, List.set_cons_succ, List.set_cons_zero]; try simp only [World.size_alloc]) | ((refine wpList_store_blk (by rfl) 29 (.tmp 5) (.tmp 12) (by rfl) (0) (prefA ((N : Int) + 1) (B.setb p N)) (by rfl) (by rfl) ((Blk.new _ _ _)) (by rw [prefA_size, prefA_size, zlab_length, hls]; omega) (hzp _ _ hls) (prefA_all _ _) ?_; simp only [Act.put]); intro w5 bQ o5; rw [splice_all _ _ (by rw [prefA_size, prefA_size, zlab_length, hls])] at bQ; have hlP := bP.lt; replace bP := (bP.alloc _).only o5 (by omega); replace hb := o5.below (hb.alloc hb.size _) (by omega); clear o5; have kP := bP.cellv (prefA_0 N p)) | (refine wpList_load_blk (by rfl) 23 (.tmp 16) (by rfl) (1) (by rfl) (bP) (labA p) (prefA_lab N p) _ Try.underlying23 (by rfl) (hz23 p hp) ?_; simp only [Act.put, List.setIfInBounds_toArray, List.set_cons_succ, List.set_cons_zero]) | (refine wpList_load_blk (by rfl) 23 (.tmp 43) (by rfl) (1) (by rfl) (bP) (labA p) (prefA_lab N p) _ Try.underlying23 (by rfl) (hz23 p hp) ?_; simp only [Act.put, List.setIfInBounds_toArray, List.set_cons_succ, List.set_cons_zero]) | ((go_at_call 20; with_reducible refine (Hg.out _).mono ?_; rintro e wn ⟨rfl, hbn⟩; replace bP := bP.at_ hbn; replace bQ := bQ.at_ hbn; replace hb := hb.trans (hbn.mono hb.size); clear hbn); have kP := bP.cellv (prefA_0 N p)) | ((refine wpList_store_blk (by rfl) 23 (.tmp 7) (.tmp 44) (by rfl) (0) (labA p) (by rfl) (by rfl) ((Blk.new _ _ _)) (by rw [labA_size, labA_size, zlab_length, hp]; omega) (hz23 _ hp) (labA_all _) ?_; simp only [Act.put]); intro w5 bR o5; rw [splice_all _ _ (by rw [labA_size, labA_size, zlab_length, hp])] at bR; have hlP := bP.lt; have hlQ := bQ.lt; replace bP := (bP.alloc _).only o5 (by omega); replace bQ := (bQ.alloc _).only o5 (by omega); replace hb := o5.below (hb.alloc hb.size _) (by omega); clear o5; have kP := bP.cellv (prefA_0 N p)) | (refine wpList_load_blk (by rfl) 23 (.tmp 7) (by rfl) 0 (by rfl) (bR) (labA p) whole_at _ Try.underlying23 (by rfl) (hz23 p hp) ?_; simp only [Act.put, List.setIfInBounds_toArray, List.set_cons_succ, List.set_cons_zero]) | (refine wpList_load_blk (by rfl) 23 (.tmp 7) (by rfl) 0 (by rfl) (bR) (labA (B.setb p N)) whole_at _ Try.underlying23 (by rfl) (hz23 _ hls) ?_; simp only [Act.put, List.setIfInBounds_toArray, List.set_cons_succ, List.set_cons_zero]) | (go_at_call 12; with_reducible refine (awake_any _).mono ?_; rintro e wn ⟨rfl, hbn⟩; replace bP := bP.at_ hbn; replace bQ := bQ.at_ hbn; replace bR := bR.at_ hbn; replace hb := hb.trans (hbn.mono hb.size); clear hbn; have kP := bP.cellv (prefA_0 N p)) | (refine wpList_load_blk (by rfl) 29 (.tmp 5) (by rfl) 0 (by rfl) (bQ) (prefA ((N : Int) + 1) (B.setb p N)) whole_at _ Try.underlying29 (by rfl) (hzp _ _ hls) ?_; simp only [Act.put, List.setIfInBounds_toArray, List.set_cons_succ, List.set_cons_zero]) | (refine wpList_build (by rfl) 29 ([(0, .tmp 60), (1, .tmp 61)]) (by rfl) ([(0, .int .i64 ((N : Int) + 1)), (1, .agg (labA (B.setb p N)))]) (by rfl) (.agg (prefA ((N : Int) + 1) (B.setb p N))) (build_pref2 _ _ hls) ?_; simp only [Act.put, List.setIfInBounds_toArray, List.set_cons_succ, List.set_cons_zero]) | (refine wpList_bin (by rfl) .eql 29 29 (.tmp 57) (.tmp 62) (by rfl) (prefA ((N : Int) + 1) (B.setb p N)) (prefA ((N : Int) + 1) (B.setb p N)) (by rfl) (by rfl) guard29 (.bool true) (eq_same _ _ hls hwf) ?_; simp only [Act.put, List.setIfInBounds_toArray, List.set_cons_succ, List.set_cons_zero]) | (go_at_call 21; with_reducible refine (Hs.out _).mono ?_; rintro e wn ⟨rfl, hbn⟩; replace bP := bP.at_ hbn; replace bQ := bQ.at_ hbn; replace bR := bR.at_ hbn; replace hb := hb.trans (hbn.mono hb.size); clear hbn; have kP := bP.cellv (prefA_0 N p)) | ((refine wpList_store_blk (by rfl) 23 (.tmp 7) (.tmp 50) (by rfl) (0) (labA (B.setb p N)) (by rfl) (by rfl) (bR) (by rw [labA_size, labA_size, hls, hp]; omega) (hz23 _ hls) (labA_all _) ?_; simp only [Act.put]); intro w6 bS o6; rw [splice_all _ _ (by rw [labA_size, labA_size, hls, hp])] at bS; have bR := bS; clear bS; have hlQ := bQ.lt; replace bP := bP.only o6 (by omega); replace bQ := bQ.only o6 (by omega); replace hb := o6.below hb (by omega); clear o6; have kP := bP.cellv (prefA_0 N p)))
    go_ret
    exact ⟨rfl, hb⟩

theorem bnext_law : LawHolds 4 Try.f4 := by
  intro H enc W base args ds p hval hA
  rw [Try.params4] at hA hval
  obtain ⟨v0, vs0, d0, ds0, p0, q0, hargs, rfl, rfl, k0, r0⟩ := trodAll_cons hA
  obtain ⟨v1, vs1, d1, ds1, p1, q1, rfl, rfl, rfl, k1, r1⟩ := trodAll_cons r0
  obtain ⟨rfl, rfl, rfl⟩ := trodAll_nil r1
  obtain rfl : args = #[v0, v1] := by cases args; simp_all
  obtain ⟨n, p, hn, hp, rfl⟩ := open_pref (hval 0 29 v0 rfl rfl) k0
  obtain ⟨b, rfl, _, _, _⟩ := open_int Try.underlying3 (hval 1 3 v1 rfl rfl) k1
  cases h : mayGrow n p b with
  | false => exact bnext_no n hn p hp b h W
  | true =>
    simp only [mayGrow, Bool.and_eq_true, decide_eq_true_eq] at h
    obtain ⟨⟨⟨hg, h1⟩, h2⟩, h3⟩ := h
    have h0 : 0 ≤ n := by
      rcases Int.lt_or_le n 0 with hl | hl
      · rw [good_out (.inl hl)] at hg; cases hg
      · exact hl
    obtain ⟨N, rfl⟩ := Int.eq_ofNat_of_zero_le h0
    exact bnext_yes N p hp b (by omega) (by omega) hg W

theorem bnext_lifted (os : Os) (started : os.Started) (H : Type) (enc : TypeId × Value → H) :
    ReturnsInHanded {} Try.checked os 4 .any (Rows.bitsNextSpec.pre6 enc Try.prog Try.f4 Rows.bitsNextRow.domain false) (Rows.bitsNextSpec.post enc Try.prog Try.f4 false true false false) :=
  lifted_of started (by kernel_rfl) Try.func4
    (ChangeSpec.witness6 (enc := enc) (C := Try.checked) false ⟨#[], #[.agg (prefA 0 zlab), .int .i64 0], []⟩ 8 (by kernel_rfl) (by kernel_rfl) (by kernel_rfl) (by kernel_rfl))
    rfl (by kernel_rfl) (fun ds h => by rw [Try.params4] at h; match ds, h with | [_, _], _ => rfl) (by rw [Try.params4]; exact of_decide_eq_true (by kernel_rfl)) bnext_law
theorem bnext_over : Rows.bitsNextRow.holds Try.pinned (OpenSpec.ofChange Rows.bitsNextSpec) :=
  OpenClaim.holds_of_wide 4 Try.f4 rfl rfl rfl rfl rfl rfl rfl ⟨rfl, rfl, rfl, rfl, rfl⟩ rfl rfl rfl rfl rfl (by kernel_rfl) Try.func4 (by kernel_rfl)
    (of_decide_eq_true (by kernel_rfl)) (by unfold Func.isWrapper; first | (rw [if_pos (by decide +kernel)]; kernel_rfl) | (rw [if_neg (by decide +kernel)]; exact ⟨rfl, rfl⟩))
    (fun os started H enc _ => bnext_lifted os started H enc)
/-- The statement. -/
theorem bnext_proved : Rows.BitsNextSaid := bnext_over
#print axioms bnext_proved
end Go.Proofs.Ytokjmdlklhkjlaa

/- The walks of prefixes over labels and over one another: bits.Has, Over. -/
import Derived.Test.YtokjmdlklhkjlaaWGood
namespace Go.Proofs.Ytokjmdlklhkjlaa
open Go.RowKit

set_option maxHeartbeats 1000000 in
/-- bits.Has. -/
theorem has_any (n : Int) (hn : (Lit.int .i64 n).wf = true) (p l : List UInt8) (hp : p.length = 32) (hl : l.length = 32) (w : World) :
    Calls Try.prog 23 #[.agg (prefA n p), .agg (labA l)] w fun e w' => e = .returned (.bool (B.has n p l)) ∧ Below w.heap.size w w' := by
  have hz : (Try.prog.info? 23).map (·.size) = some (labA l).size := by rw [labA_size, hl]; kernel_rfl
  have hzp : (Try.prog.info? 23).map (·.size) = some (labA p).size := by rw [labA_size, hp]; kernel_rfl
  have hz29 : (Try.prog.info? 29).map (·.size) = some (prefA n p).size := by rw [prefA_size, hp]; kernel_rfl
  have b0 : Blk ((w.alloc (.cells (prefA n p) 29)).alloc (.cells (labA l) 23)) w.heap.size (prefA n p) 29 := heap_alloc2_old _ _ _
  have b1 : Blk ((w.alloc (.cells (prefA n p) 29)).alloc (.cells (labA l) 23)) (w.heap.size + 1) (labA l) 23 := heap_alloc2_new _ _ _
  have k0 := cell_regrown (b0.cellv (prefA_0 n p))
  have hgc := good_any n hn p hp
  cases hg : B.good n p with
  | false =>
    rw [hg] at hgc
    have Hg := Lib.hid hgc
    clear hgc
    have hres := Lib.hid (show B.has n p l = false from by unfold B.has; rw [hg]; rfl)
    go_enter Try.func23, Try.ntmps23
    go_wp2
    refine wp_region_quiet_below (by kernel_rfl) (by kernel_rfl) ?_
    repeat (first | (go_big_quiet_want; refine quiet_load_row 29 (.tmp 2) (by rfl) (w.heap.size) (by rfl) 29 (prefA n p) (0, 0) _ (heap_regrown b0) Try.underlying29 (by rfl) hz29 ?_; simp only [Act.put, List.setIfInBounds_toArray, List.set_cons_succ, List.set_cons_zero]; go_big_quiet_on) | go_big_quiet_step (first | with_reducible exact calls_regrown _ (fun W _ => Hg.out W) | fail))
    refine wpQuiet_nil ?_
    intro w1 hw1
    have hb1 := below_of_regrown hw1
    clear hw1
    go_wp2
    go_ret
    exact ⟨ret_bool (by rw [hres.out]), (((Below.refl _ _).alloc (Nat.le_refl _) _).alloc (by simp) _).trans (hb1.mono (by simp; omega))⟩
  | true =>
    rw [hg] at hgc
    have Hg := Lib.hid hgc
    clear hgc
    have hres := Lib.hid (show B.has n p l = decide (n ≤ (B.cmn p l : Nat)) from by unfold B.has; rw [hg]; rfl)
    have Hc := Lib.hid (cmn_any p l hp hl)
    go_enter Try.func23, Try.ntmps23
    go_wp2
    refine wp_region_quiet_below (by kernel_rfl) (by kernel_rfl) ?_
    repeat (first | (go_big_quiet_want; refine quiet_load_row 29 (.tmp 2) (by rfl) (w.heap.size) (by rfl) 29 (prefA n p) (0, 0) _ (heap_regrown b0) Try.underlying29 (by rfl) hz29 ?_; simp only [Act.put, List.setIfInBounds_toArray, List.set_cons_succ, List.set_cons_zero]; go_big_quiet_on) | (go_big_quiet_want; refine quiet_load_row 23 (.tmp 3) (by rfl) (w.heap.size + 1) (by rfl) 23 (labA l) (0, 0) _ (heap_regrown b1) Try.underlying23 (by rfl) hz ?_; simp only [Act.put, List.setIfInBounds_toArray, List.set_cons_succ, List.set_cons_zero]; go_big_quiet_on) | (go_big_quiet_want; refine quiet_load_blk 23 (.tmp 8) (by rfl) (1) (by rfl) (heap_regrown b0) (labA p) (prefA_lab n p) _ Try.underlying23 (by rfl) hzp ?_; simp only [Act.put, List.setIfInBounds_toArray, List.set_cons_succ, List.set_cons_zero]; go_big_quiet_on) | go_big_quiet_step (first | with_reducible exact calls_regrown _ (fun W _ => Hg.out W) | with_reducible exact calls_regrown _ (fun W _ => Hc.out W) | fail))
    refine wpQuiet_nil ?_
    intro w1 hw1
    have hb1 := below_of_regrown hw1
    clear hw1
    go_wp2
    go_ret
    exact ⟨ret_bool (by rw [hres.out]), (((Below.refl _ _).alloc (Nat.le_refl _) _).alloc (by simp) _).trans (hb1.mono (by simp; omega))⟩

set_option maxHeartbeats 1000000 in
/-- bits.Over. -/
theorem over_any (n m : Int) (hn : (Lit.int .i64 n).wf = true) (hm : (Lit.int .i64 m).wf = true) (p q : List UInt8) (hp : p.length = 32) (hq : q.length = 32) (w : World) :
    Calls Try.prog 26 #[.agg (prefA n p), .agg (prefA m q)] w fun e w' => e = .returned (.bool (B.over n p m q)) ∧ Below w.heap.size w w' := by
  have hz : (Try.prog.info? 23).map (·.size) = some (labA q).size := by rw [labA_size, hq]; kernel_rfl
  have hzn : (Try.prog.info? 29).map (·.size) = some (prefA n p).size := by rw [prefA_size, hp]; kernel_rfl
  have hzm : (Try.prog.info? 29).map (·.size) = some (prefA m q).size := by rw [prefA_size, hq]; kernel_rfl
  have b0 : Blk ((w.alloc (.cells (prefA n p) 29)).alloc (.cells (prefA m q) 29)) w.heap.size (prefA n p) 29 := heap_alloc2_old _ _ _
  have b1 : Blk ((w.alloc (.cells (prefA n p) 29)).alloc (.cells (prefA m q) 29)) (w.heap.size + 1) (prefA m q) 29 := heap_alloc2_new _ _ _
  have Hg := Lib.hid (good_any m hm q hq)
  have Hh := Lib.hid (has_any n hn p q hp hq)
  cases hg : B.good m q with
  | false =>
    have hres := Lib.hid (show B.over n p m q = false from by unfold B.over; rw [hg]; rfl)
    go_enter Try.func26, Try.ntmps26
    go_wp2_with (first | (refine wpList_load_blk (by rfl) 29 (.tmp 3) (by rfl) 0 (by rfl) (b1) (prefA m q) whole_at _ Try.underlying29 (by rfl) hzm ?_) | (go_at_call 25; with_reducible refine (Hg.out _).mono ?_; rintro e w1 ⟨rfl, hb1⟩; rw [hg]))
    go_ret
    exact ⟨ret_bool (by rw [hres.out]), (((Below.refl _ _).alloc (Nat.le_refl _) _).alloc (by simp) _).trans (hb1.mono (by simp; omega))⟩
  | true =>
    by_cases hle : n ≤ m
    · have hd : decide (n ≤ m) = true := by simpa using hle
      have hres := Lib.hid (show B.over n p m q = B.has n p q from by unfold B.over; rw [hg, hd]; rfl)
      go_enter Try.func26, Try.ntmps26
      go_wp2_with (first | (refine wpList_load_blk (by rfl) 29 (.tmp 3) (by rfl) 0 (by rfl) (b1) (prefA m q) whole_at _ Try.underlying29 (by rfl) hzm ?_) | (go_at_call 25; with_reducible refine (Hg.out _).mono ?_; rintro e w1 ⟨rfl, hb1⟩; rw [hg]; have b01 := b0.at_ hb1; have b11 := b1.at_ hb1; have k0 := b01.cellv (prefA_0 n p); have k1 := b11.cellv (prefA_0 m q)) | (refine wpList_load_blk (by rfl) 29 (.tmp 2) (by rfl) 0 (by rfl) (b01) (prefA n p) whole_at _ Try.underlying29 (by rfl) hzn ?_) | (refine wpList_load_blk (by rfl) 23 (.tmp 16) (by rfl) (1) (by rfl) (b11) (labA q) (prefA_lab m q) _ Try.underlying23 (by rfl) hz ?_) | (go_at_call 23; with_reducible refine (Hh.out _).mono ?_; rintro e w2 ⟨rfl, hb2⟩))
      go_ret
      exact ⟨ret_bool (by rw [hres.out]), ((((Below.refl _ _).alloc (Nat.le_refl _) _).alloc (by simp) _).trans (hb1.mono (by simp; omega))).trans (hb2.mono (by have := hb1.size; simp at this; omega))⟩
    · have hd : decide (n ≤ m) = false := by simpa using hle
      have hres := Lib.hid (show B.over n p m q = false from by unfold B.over; rw [hg, hd]; rfl)
      go_enter Try.func26, Try.ntmps26
      go_wp2_with (first | (refine wpList_load_blk (by rfl) 29 (.tmp 3) (by rfl) 0 (by rfl) (b1) (prefA m q) whole_at _ Try.underlying29 (by rfl) hzm ?_) | (go_at_call 25; with_reducible refine (Hg.out _).mono ?_; rintro e w1 ⟨rfl, hb1⟩; rw [hg]; have b01 := b0.at_ hb1; have b11 := b1.at_ hb1; have k0 := b01.cellv (prefA_0 n p); have k1 := b11.cellv (prefA_0 m q)))
      go_ret
      exact ⟨ret_bool (by rw [hres.out]), (((Below.refl _ _).alloc (Nat.le_refl _) _).alloc (by simp) _).trans (hb1.mono (by simp; omega))⟩
end Go.Proofs.Ytokjmdlklhkjlaa

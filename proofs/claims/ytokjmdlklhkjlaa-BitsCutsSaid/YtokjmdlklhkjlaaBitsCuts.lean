/- BitsCuts: prefixes are cut, told to be in form and over one another as the document says: for any label, any number, any two prefixes. No condition. -/
import Derived.Test.YtokjmdlklhkjlaaWAwake1
import Derived.Test.YtokjmdlklhkjlaaOpenB
namespace Go.Proofs.Ytokjmdlklhkjlaa
open Go.ChangeShapes Go.WideShapes Go.ChangeAt Go.RowKit

theorem has_eq {n : Int} {p l : List UInt8} (hg : B.good n p = true) : B.has n p l = (B.cut l (min n.toNat 256) == p) := by
  have h0 : ¬ (n < 0 ∨ 256 < n) := fun h => by rw [good_out h] at hg; cases hg
  unfold B.has
  rw [hg, Bool.true_and, Bool.eq_iff_iff, decide_eq_true_eq, B.cmn_good_ge hg, beq_iff_eq, show min n.toNat 256 = n.toNat from by omega]
theorem neq_self (l : List UInt8) (hl : l.length = 32) (w : World) : (binOp .neq 23 (.agg (labA l)) (.agg (labA l))).run Try.prog w = .ok (.bool false) w := by
  rw [neq23 l l hl hl w]; simp

set_option maxHeartbeats 8000000 in
theorem cuts_walk (l : List UInt8) (hl : l.length = 32) (k : Int) (n m : Int) (hn : (Lit.int .i64 n).wf = true) (hm : (Lit.int .i64 m).wf = true) (p q : List UInt8) (hp : p.length = 32) (hq : q.length = 32) (w : World) :
    Calls Try.prog 7 #[.agg (labA l), .int .i64 k, .agg (prefA n p), .agg (prefA m q)] w fun e w' => e = .returned (.bool true) ∧ Below w.heap.size w w' := by
  have hz23 : ∀ (r : List UInt8), r.length = 32 → (Try.prog.info? 23).map (·.size) = some (labA r).size := fun r hr => by rw [labA_size, hr]; kernel_rfl
  have hz29 : ∀ (j : Int) (r : List UInt8), r.length = 32 → (Try.prog.info? 29).map (·.size) = some (prefA j r).size := fun j r hr => by rw [prefA_size, hr]; kernel_rfl
  have bL : Blk (((w.alloc (.cells (labA l) 23)).alloc (.cells (prefA n p) 29)).alloc (.cells (prefA m q) 29)) w.heap.size (labA l) 23 := Blk.alloc (heap_alloc2_old _ _ _) _
  have bP : Blk (((w.alloc (.cells (labA l) 23)).alloc (.cells (prefA n p) 29)).alloc (.cells (prefA m q) 29)) (w.heap.size + 1) (prefA n p) 29 := Blk.alloc (heap_alloc2_new _ _ _) _
  have bQ : Blk (((w.alloc (.cells (labA l) 23)).alloc (.cells (prefA n p) 29)).alloc (.cells (prefA m q) 29)) (w.heap.size + 1 + 1) (prefA m q) 29 := by
    have := Blk.new ((w.alloc (.cells (labA l) 23)).alloc (.cells (prefA n p) 29)) (prefA m q) 29
    simp only [World.size_alloc] at this
    exact this
  have hB : Below w.heap.size w (((w.alloc (.cells (labA l) 23)).alloc (.cells (prefA n p) 29)).alloc (.cells (prefA m q) 29)) := (((Below.refl _ _).alloc (Nat.le_refl _) _).alloc (by simp) _).alloc (by simp; omega) _
  have hN : max 0 (min k 256) = ((min k.toNat 256 : Nat) : Int) := by omega
  have hC := Lib.hid (cut_any l hl k)
  have hR := Lib.hid (rcut_any l hl k)
  have hlc := B.cut_length l (min k.toNat 256)
  have hG := rgood_any n p hp
  have hG' := good_any n hn p hp
  have hQ := rgood_any m q hq
  have hH := has_any n hn p l hp hl
  have hO := over_any n m hn hm p q hp hq
  have hR1 := Lib.hid (rcut_any l hl n)
  have hR2 := Lib.hid (rcut_any q hq n)
  have hE1 := Lib.hid (eql23 (B.cut l (min n.toNat 256)) p (B.cut_length _ _) hp)
  have hE2 := Lib.hid (eql23 (B.cut q (min n.toNat 256)) p (B.cut_length _ _) hp)
  have hE0 := Lib.hid (neq_self (B.cut l (min k.toNat 256)) hlc)
  generalize B.cut l (min k.toNat 256) = lc at hC hR hlc hE0
  generalize min k.toNat 256 = N at hN hC
  cases hg : B.good n p with
  | false =>
    rw [show B.has n p l = false from by unfold B.has; rw [hg]; rfl] at hH
    rw [show B.over n p m q = false from by unfold B.over B.has; rw [hg]; simp] at hO
    rw [hg] at hG hG'
    have HG := Lib.hid hG
    have HG' := Lib.hid hG'
    have HQ := Lib.hid hQ
    have HH := Lib.hid hH
    have HO := Lib.hid hO
    generalize (B.cut l (min n.toNat 256) == p) = x1 at HH hE1
    generalize (B.cut q (min n.toNat 256) == p) = x2 at HO hE2
    clear hG hG' hQ hH hO
    go_enter Try.func7, Try.ntmps7
    go_wp2_with (first | (refine wpList_load_blk (by rfl) 23 (.tmp 4) (by rfl) 0 (by rfl) (bL) (labA l) whole_at _ Try.underlying23 (by rfl) (hz23 l hl) ?_; simp only [Act.put, List.setIfInBounds_toArray, List.set_cons_succ, List.set_cons_zero]) | (go_at_call 22; with_reducible refine (hC.out _).mono ?_; rintro e wn ⟨rfl, hbn⟩; replace bL := bL.at_ hbn; replace bP := bP.at_ hbn; replace bQ := bQ.at_ hbn; replace hB := hB.trans (hbn.mono hB.size); clear hbn) | (refine wpList_fresh (by rfl) 29 (by rfl) _ fresh_pref ?_; simp only [Act.put, List.setIfInBounds_toArray, List.set_cons_succ, List.set_cons_zero]; try simp only [World.size_alloc]) | ((refine wpList_store_blk (by rfl) 29 (.tmp 9) (.tmp 15) (by rfl) (0) (prefA N lc) (by rfl) (by rfl) ((Blk.new _ _ _)) (by rw [prefA_size, prefA_size, zlab_length, hlc]; omega) (hz29 _ _ hlc) (prefA_all _ _) ?_; simp only [Act.put]); intro w5 bC o5; rw [splice_all _ _ (by rw [prefA_size, prefA_size, zlab_length, hlc])] at bC; have hlQ := bQ.lt; replace bL := (bL.alloc _).only o5 (by omega); replace bP := (bP.alloc _).only o5 (by omega); replace bQ := (bQ.alloc _).only o5 (by omega); replace hB := o5.below (hB.alloc hB.size _) (by omega); clear o5))
    have kC := cell_regrown (bC.cellv (prefA_0 N lc))
    refine wp_region_quiet_below (by kernel_rfl) (by kernel_rfl) ?_
    repeat (first | (go_big_quiet_want; refine quiet_load_row 23 (.tmp 4) (by rfl) (w.heap.size) (by rfl) 23 (labA l) (0, 0) _ (heap_regrown bL) Try.underlying23 (by rfl) (hz23 l hl) ?_; simp only [Act.put, List.setIfInBounds_toArray, List.set_cons_succ, List.set_cons_zero]; go_big_quiet_on) | (go_big_quiet_want; refine quiet_load_blk 23 (.tmp 19) (by rfl) (1) (by rfl) (heap_regrown bC) (labA lc) (prefA_lab N lc) _ Try.underlying23 (by rfl) (hz23 _ hlc) ?_; simp only [Act.put, List.setIfInBounds_toArray, List.set_cons_succ, List.set_cons_zero]; go_big_quiet_on) | (go_big_quiet_want; refine quiet_bin .neq 23 23 (.tmp 20) (.tmp 23) (by rfl) (labA lc) (labA lc) (by rfl) (by rfl) guard23 (.bool false) (hE0.out) ?_; simp only [Act.put, List.setIfInBounds_toArray, List.set_cons_succ, List.set_cons_zero]; go_big_quiet_on) | go_big_quiet_step (first | with_reducible exact calls_regrown _ (fun W _ => awake_any W) | with_reducible exact calls_regrown _ (fun W _ => hR.out W) | fail))
    refine wpQuiet_nil ?_
    intro w1 hw1
    have hb1 := below_of_regrown hw1
    clear hw1
    replace bL := bL.at_ hb1
    replace bP := bP.at_ hb1
    replace bQ := bQ.at_ hb1
    replace bC := bC.at_ hb1
    replace hB := hB.trans (hb1.mono hB.size)
    clear hb1
    have kP := bP.cellv (prefA_0 n p)
    go_wp2_with (first | (refine wpList_load_blk (by rfl) 23 (.tmp 36) (by rfl) (1) (by rfl) (bP) (labA p) (prefA_lab n p) _ Try.underlying23 (by rfl) (hz23 p hp) ?_; simp only [Act.put, List.setIfInBounds_toArray, List.set_cons_succ, List.set_cons_zero]) | (go_at_call 20; with_reducible refine (HG.out _).mono ?_; rintro e wn ⟨rfl, hbn⟩; replace bL := bL.at_ hbn; replace bP := bP.at_ hbn; replace bQ := bQ.at_ hbn; replace bC := bC.at_ hbn; replace hB := hB.trans (hbn.mono hB.size); clear hbn))
    have kP := cell_regrown (bP.cellv (prefA_0 n p))
    refine wp_region_quiet_below (by kernel_rfl) (by kernel_rfl) ?_
    repeat (first | (go_big_quiet_want; refine quiet_load_row 23 (.tmp 4) (by rfl) (w.heap.size) (by rfl) 23 (labA l) (0, 0) _ (heap_regrown bL) Try.underlying23 (by rfl) (hz23 l hl) ?_; simp only [Act.put, List.setIfInBounds_toArray, List.set_cons_succ, List.set_cons_zero]; go_big_quiet_on) | (go_big_quiet_want; refine quiet_load_blk 23 (.tmp 45) (by rfl) (1) (by rfl) (heap_regrown bP) (labA p) (prefA_lab n p) _ Try.underlying23 (by rfl) (hz23 p hp) ?_; simp only [Act.put, List.setIfInBounds_toArray, List.set_cons_succ, List.set_cons_zero]; go_big_quiet_on) | (go_big_quiet_want; refine quiet_bin .eql 23 23 (.tmp 44) (.tmp 46) (by rfl) (labA (B.cut l (min n.toNat 256))) (labA p) (by rfl) (by rfl) guard23 (.bool x1) (hE1.out) ?_; simp only [Act.put, List.setIfInBounds_toArray, List.set_cons_succ, List.set_cons_zero]; go_big_quiet_on) | go_big_quiet_step (first | with_reducible exact calls_regrown _ (fun W _ => hR1.out W) | fail))
    refine wpQuiet_nil ?_
    intro w1 hw1
    have hb1 := below_of_regrown hw1
    clear hw1
    replace bL := bL.at_ hb1
    replace bP := bP.at_ hb1
    replace bQ := bQ.at_ hb1
    replace bC := bC.at_ hb1
    replace hB := hB.trans (hb1.mono hB.size)
    clear hb1
    clear kP
    have kP := cell_regrown (bP.cellv (prefA_0 n p))
    have kQ := cell_regrown (bQ.cellv (prefA_0 m q))
    go_wp2_with fail
    refine wp_region_quiet_below (by kernel_rfl) (by kernel_rfl) ?_
    repeat (first | (go_big_quiet_want; refine quiet_load_blk 23 (.tmp 53) (by rfl) (1) (by rfl) (heap_regrown bQ) (labA q) (prefA_lab m q) _ Try.underlying23 (by rfl) (hz23 q hq) ?_; simp only [Act.put, List.setIfInBounds_toArray, List.set_cons_succ, List.set_cons_zero]; go_big_quiet_on) | (go_big_quiet_want; refine quiet_load_blk 23 (.tmp 65) (by rfl) (1) (by rfl) (heap_regrown bQ) (labA q) (prefA_lab m q) _ Try.underlying23 (by rfl) (hz23 q hq) ?_; simp only [Act.put, List.setIfInBounds_toArray, List.set_cons_succ, List.set_cons_zero]; go_big_quiet_on) | (go_big_quiet_want; refine quiet_load_blk 23 (.tmp 70) (by rfl) (1) (by rfl) (heap_regrown bP) (labA p) (prefA_lab n p) _ Try.underlying23 (by rfl) (hz23 p hp) ?_; simp only [Act.put, List.setIfInBounds_toArray, List.set_cons_succ, List.set_cons_zero]; go_big_quiet_on) | (go_big_quiet_want; refine quiet_bin .eql 23 23 (.tmp 69) (.tmp 71) (by rfl) (labA (B.cut q (min n.toNat 256))) (labA p) (by rfl) (by rfl) guard23 (.bool x2) (hE2.out) ?_; simp only [Act.put, List.setIfInBounds_toArray, List.set_cons_succ, List.set_cons_zero]; go_big_quiet_on) | go_big_quiet_step (first | with_reducible exact calls_regrown _ (fun W _ => HQ.out W) | with_reducible exact calls_regrown _ (fun W _ => hR2.out W) | fail))
    refine wpQuiet_nil ?_
    intro w1 hw1
    have hb1 := below_of_regrown hw1
    clear hw1
    replace bL := bL.at_ hb1
    replace bP := bP.at_ hb1
    replace bQ := bQ.at_ hb1
    replace bC := bC.at_ hb1
    replace hB := hB.trans (hb1.mono hB.size)
    clear hb1
    clear kP kQ
    go_wp2_with (first | (refine wpList_load_blk (by rfl) 29 (.tmp 6) (by rfl) 0 (by rfl) (bP) (prefA n p) whole_at _ Try.underlying29 (by rfl) (hz29 _ _ hp) ?_; simp only [Act.put, List.setIfInBounds_toArray, List.set_cons_succ, List.set_cons_zero]) | (refine wpList_load_blk (by rfl) 29 (.tmp 7) (by rfl) 0 (by rfl) (bQ) (prefA m q) whole_at _ Try.underlying29 (by rfl) (hz29 _ _ hq) ?_; simp only [Act.put, List.setIfInBounds_toArray, List.set_cons_succ, List.set_cons_zero]) | (refine wpList_load_blk (by rfl) 23 (.tmp 4) (by rfl) 0 (by rfl) (bL) (labA l) whole_at _ Try.underlying23 (by rfl) (hz23 l hl) ?_; simp only [Act.put, List.setIfInBounds_toArray, List.set_cons_succ, List.set_cons_zero]) | (go_at_call 25; with_reducible refine (HG'.out _).mono ?_; rintro e wn ⟨rfl, hbn⟩; replace bL := bL.at_ hbn; replace bP := bP.at_ hbn; replace bQ := bQ.at_ hbn; replace bC := bC.at_ hbn; replace hB := hB.trans (hbn.mono hB.size); clear hbn) | (go_at_call 23; with_reducible refine (HH.out _).mono ?_; rintro e wn ⟨rfl, hbn⟩; replace bL := bL.at_ hbn; replace bP := bP.at_ hbn; replace bQ := bQ.at_ hbn; replace bC := bC.at_ hbn; replace hB := hB.trans (hbn.mono hB.size); clear hbn) | (go_at_call 26; with_reducible refine (HO.out _).mono ?_; rintro e wn ⟨rfl, hbn⟩; replace bL := bL.at_ hbn; replace bP := bP.at_ hbn; replace bQ := bQ.at_ hbn; replace bC := bC.at_ hbn; replace hB := hB.trans (hbn.mono hB.size); clear hbn))
    go_ret
    exact ⟨rfl, hB⟩
  | true =>
    rw [has_eq hg] at hH
    rw [hg] at hG hG'
    cases hgq : B.good m q with
    | false =>
      rw [show B.over n p m q = false from by unfold B.over; rw [hgq]; rfl] at hO
      rw [hgq] at hQ
      have HG := Lib.hid hG
      have HG' := Lib.hid hG'
      have HQ := Lib.hid hQ
      have HH := Lib.hid hH
      have HO := Lib.hid hO
      generalize (B.cut l (min n.toNat 256) == p) = x1 at HH hE1
      generalize (B.cut q (min n.toNat 256) == p) = x2 at HO hE2
      clear hG hG' hQ hH hO
      go_enter Try.func7, Try.ntmps7
      go_wp2_with (first | (refine wpList_load_blk (by rfl) 23 (.tmp 4) (by rfl) 0 (by rfl) (bL) (labA l) whole_at _ Try.underlying23 (by rfl) (hz23 l hl) ?_; simp only [Act.put, List.setIfInBounds_toArray, List.set_cons_succ, List.set_cons_zero]) | (go_at_call 22; with_reducible refine (hC.out _).mono ?_; rintro e wn ⟨rfl, hbn⟩; replace bL := bL.at_ hbn; replace bP := bP.at_ hbn; replace bQ := bQ.at_ hbn; replace hB := hB.trans (hbn.mono hB.size); clear hbn) | (refine wpList_fresh (by rfl) 29 (by rfl) _ fresh_pref ?_; simp only [Act.put, List.setIfInBounds_toArray, List.set_cons_succ, List.set_cons_zero]; try simp only [World.size_alloc]) | ((refine wpList_store_blk (by rfl) 29 (.tmp 9) (.tmp 15) (by rfl) (0) (prefA N lc) (by rfl) (by rfl) ((Blk.new _ _ _)) (by rw [prefA_size, prefA_size, zlab_length, hlc]; omega) (hz29 _ _ hlc) (prefA_all _ _) ?_; simp only [Act.put]); intro w5 bC o5; rw [splice_all _ _ (by rw [prefA_size, prefA_size, zlab_length, hlc])] at bC; have hlQ := bQ.lt; replace bL := (bL.alloc _).only o5 (by omega); replace bP := (bP.alloc _).only o5 (by omega); replace bQ := (bQ.alloc _).only o5 (by omega); replace hB := o5.below (hB.alloc hB.size _) (by omega); clear o5))
      have kC := cell_regrown (bC.cellv (prefA_0 N lc))
      refine wp_region_quiet_below (by kernel_rfl) (by kernel_rfl) ?_
      repeat (first | (go_big_quiet_want; refine quiet_load_row 23 (.tmp 4) (by rfl) (w.heap.size) (by rfl) 23 (labA l) (0, 0) _ (heap_regrown bL) Try.underlying23 (by rfl) (hz23 l hl) ?_; simp only [Act.put, List.setIfInBounds_toArray, List.set_cons_succ, List.set_cons_zero]; go_big_quiet_on) | (go_big_quiet_want; refine quiet_load_blk 23 (.tmp 19) (by rfl) (1) (by rfl) (heap_regrown bC) (labA lc) (prefA_lab N lc) _ Try.underlying23 (by rfl) (hz23 _ hlc) ?_; simp only [Act.put, List.setIfInBounds_toArray, List.set_cons_succ, List.set_cons_zero]; go_big_quiet_on) | (go_big_quiet_want; refine quiet_bin .neq 23 23 (.tmp 20) (.tmp 23) (by rfl) (labA lc) (labA lc) (by rfl) (by rfl) guard23 (.bool false) (hE0.out) ?_; simp only [Act.put, List.setIfInBounds_toArray, List.set_cons_succ, List.set_cons_zero]; go_big_quiet_on) | go_big_quiet_step (first | with_reducible exact calls_regrown _ (fun W _ => awake_any W) | with_reducible exact calls_regrown _ (fun W _ => hR.out W) | fail))
      refine wpQuiet_nil ?_
      intro w1 hw1
      have hb1 := below_of_regrown hw1
      clear hw1
      replace bL := bL.at_ hb1
      replace bP := bP.at_ hb1
      replace bQ := bQ.at_ hb1
      replace bC := bC.at_ hb1
      replace hB := hB.trans (hb1.mono hB.size)
      clear hb1
      have kP := bP.cellv (prefA_0 n p)
      go_wp2_with (first | (refine wpList_load_blk (by rfl) 23 (.tmp 36) (by rfl) (1) (by rfl) (bP) (labA p) (prefA_lab n p) _ Try.underlying23 (by rfl) (hz23 p hp) ?_; simp only [Act.put, List.setIfInBounds_toArray, List.set_cons_succ, List.set_cons_zero]) | (go_at_call 20; with_reducible refine (HG.out _).mono ?_; rintro e wn ⟨rfl, hbn⟩; replace bL := bL.at_ hbn; replace bP := bP.at_ hbn; replace bQ := bQ.at_ hbn; replace bC := bC.at_ hbn; replace hB := hB.trans (hbn.mono hB.size); clear hbn))
      have kP := cell_regrown (bP.cellv (prefA_0 n p))
      refine wp_region_quiet_below (by kernel_rfl) (by kernel_rfl) ?_
      repeat (first | (go_big_quiet_want; refine quiet_load_row 23 (.tmp 4) (by rfl) (w.heap.size) (by rfl) 23 (labA l) (0, 0) _ (heap_regrown bL) Try.underlying23 (by rfl) (hz23 l hl) ?_; simp only [Act.put, List.setIfInBounds_toArray, List.set_cons_succ, List.set_cons_zero]; go_big_quiet_on) | (go_big_quiet_want; refine quiet_load_blk 23 (.tmp 45) (by rfl) (1) (by rfl) (heap_regrown bP) (labA p) (prefA_lab n p) _ Try.underlying23 (by rfl) (hz23 p hp) ?_; simp only [Act.put, List.setIfInBounds_toArray, List.set_cons_succ, List.set_cons_zero]; go_big_quiet_on) | (go_big_quiet_want; refine quiet_bin .eql 23 23 (.tmp 44) (.tmp 46) (by rfl) (labA (B.cut l (min n.toNat 256))) (labA p) (by rfl) (by rfl) guard23 (.bool x1) (hE1.out) ?_; simp only [Act.put, List.setIfInBounds_toArray, List.set_cons_succ, List.set_cons_zero]; go_big_quiet_on) | go_big_quiet_step (first | with_reducible exact calls_regrown _ (fun W _ => hR1.out W) | fail))
      refine wpQuiet_nil ?_
      intro w1 hw1
      have hb1 := below_of_regrown hw1
      clear hw1
      replace bL := bL.at_ hb1
      replace bP := bP.at_ hb1
      replace bQ := bQ.at_ hb1
      replace bC := bC.at_ hb1
      replace hB := hB.trans (hb1.mono hB.size)
      clear hb1
      clear kP
      have kP := cell_regrown (bP.cellv (prefA_0 n p))
      have kQ := cell_regrown (bQ.cellv (prefA_0 m q))
      go_wp2_with fail
      refine wp_region_quiet_below (by kernel_rfl) (by kernel_rfl) ?_
      repeat (first | (go_big_quiet_want; refine quiet_load_blk 23 (.tmp 53) (by rfl) (1) (by rfl) (heap_regrown bQ) (labA q) (prefA_lab m q) _ Try.underlying23 (by rfl) (hz23 q hq) ?_; simp only [Act.put, List.setIfInBounds_toArray, List.set_cons_succ, List.set_cons_zero]; go_big_quiet_on) | (go_big_quiet_want; refine quiet_load_blk 23 (.tmp 65) (by rfl) (1) (by rfl) (heap_regrown bQ) (labA q) (prefA_lab m q) _ Try.underlying23 (by rfl) (hz23 q hq) ?_; simp only [Act.put, List.setIfInBounds_toArray, List.set_cons_succ, List.set_cons_zero]; go_big_quiet_on) | (go_big_quiet_want; refine quiet_load_blk 23 (.tmp 70) (by rfl) (1) (by rfl) (heap_regrown bP) (labA p) (prefA_lab n p) _ Try.underlying23 (by rfl) (hz23 p hp) ?_; simp only [Act.put, List.setIfInBounds_toArray, List.set_cons_succ, List.set_cons_zero]; go_big_quiet_on) | (go_big_quiet_want; refine quiet_bin .eql 23 23 (.tmp 69) (.tmp 71) (by rfl) (labA (B.cut q (min n.toNat 256))) (labA p) (by rfl) (by rfl) guard23 (.bool x2) (hE2.out) ?_; simp only [Act.put, List.setIfInBounds_toArray, List.set_cons_succ, List.set_cons_zero]; go_big_quiet_on) | go_big_quiet_step (first | with_reducible exact calls_regrown _ (fun W _ => HQ.out W) | with_reducible exact calls_regrown _ (fun W _ => hR2.out W) | fail))
      refine wpQuiet_nil ?_
      intro w1 hw1
      have hb1 := below_of_regrown hw1
      clear hw1
      replace bL := bL.at_ hb1
      replace bP := bP.at_ hb1
      replace bQ := bQ.at_ hb1
      replace bC := bC.at_ hb1
      replace hB := hB.trans (hb1.mono hB.size)
      clear hb1
      clear kP kQ
      go_wp2_with (first | (refine wpList_load_blk (by rfl) 29 (.tmp 6) (by rfl) 0 (by rfl) (bP) (prefA n p) whole_at _ Try.underlying29 (by rfl) (hz29 _ _ hp) ?_; simp only [Act.put, List.setIfInBounds_toArray, List.set_cons_succ, List.set_cons_zero]) | (refine wpList_load_blk (by rfl) 29 (.tmp 7) (by rfl) 0 (by rfl) (bQ) (prefA m q) whole_at _ Try.underlying29 (by rfl) (hz29 _ _ hq) ?_; simp only [Act.put, List.setIfInBounds_toArray, List.set_cons_succ, List.set_cons_zero]) | (refine wpList_load_blk (by rfl) 23 (.tmp 4) (by rfl) 0 (by rfl) (bL) (labA l) whole_at _ Try.underlying23 (by rfl) (hz23 l hl) ?_; simp only [Act.put, List.setIfInBounds_toArray, List.set_cons_succ, List.set_cons_zero]) | (go_at_call 25; with_reducible refine (HG'.out _).mono ?_; rintro e wn ⟨rfl, hbn⟩; replace bL := bL.at_ hbn; replace bP := bP.at_ hbn; replace bQ := bQ.at_ hbn; replace bC := bC.at_ hbn; replace hB := hB.trans (hbn.mono hB.size); clear hbn) | (go_at_call 23; with_reducible refine (HH.out _).mono ?_; rintro e wn ⟨rfl, hbn⟩; replace bL := bL.at_ hbn; replace bP := bP.at_ hbn; replace bQ := bQ.at_ hbn; replace bC := bC.at_ hbn; replace hB := hB.trans (hbn.mono hB.size); clear hbn) | (go_at_call 26; with_reducible refine (HO.out _).mono ?_; rintro e wn ⟨rfl, hbn⟩; replace bL := bL.at_ hbn; replace bP := bP.at_ hbn; replace bQ := bQ.at_ hbn; replace bC := bC.at_ hbn; replace hB := hB.trans (hbn.mono hB.size); clear hbn))
      go_ret
      exact ⟨rfl, hB⟩
    | true =>
      rw [hgq] at hQ
      rcases Int.lt_or_le m n with hle | hle
      · have hd : decide (n ≤ m) = false := by simp; omega
        rw [show B.over n p m q = false from by unfold B.over; rw [hgq, hd]; rfl] at hO
        clear hle
        have HG := Lib.hid hG
        have HG' := Lib.hid hG'
        have HQ := Lib.hid hQ
        have HH := Lib.hid hH
        have HO := Lib.hid hO
        generalize (B.cut l (min n.toNat 256) == p) = x1 at HH hE1
        generalize (B.cut q (min n.toNat 256) == p) = x2 at HO hE2
        clear hG hG' hQ hH hO
        go_enter Try.func7, Try.ntmps7
        go_wp2_with (first | (refine wpList_load_blk (by rfl) 23 (.tmp 4) (by rfl) 0 (by rfl) (bL) (labA l) whole_at _ Try.underlying23 (by rfl) (hz23 l hl) ?_; simp only [Act.put, List.setIfInBounds_toArray, List.set_cons_succ, List.set_cons_zero]) | (go_at_call 22; with_reducible refine (hC.out _).mono ?_; rintro e wn ⟨rfl, hbn⟩; replace bL := bL.at_ hbn; replace bP := bP.at_ hbn; replace bQ := bQ.at_ hbn; replace hB := hB.trans (hbn.mono hB.size); clear hbn) | (refine wpList_fresh (by rfl) 29 (by rfl) _ fresh_pref ?_; simp only [Act.put, List.setIfInBounds_toArray, List.set_cons_succ, List.set_cons_zero]; try simp only [World.size_alloc]) | ((refine wpList_store_blk (by rfl) 29 (.tmp 9) (.tmp 15) (by rfl) (0) (prefA N lc) (by rfl) (by rfl) ((Blk.new _ _ _)) (by rw [prefA_size, prefA_size, zlab_length, hlc]; omega) (hz29 _ _ hlc) (prefA_all _ _) ?_; simp only [Act.put]); intro w5 bC o5; rw [splice_all _ _ (by rw [prefA_size, prefA_size, zlab_length, hlc])] at bC; have hlQ := bQ.lt; replace bL := (bL.alloc _).only o5 (by omega); replace bP := (bP.alloc _).only o5 (by omega); replace bQ := (bQ.alloc _).only o5 (by omega); replace hB := o5.below (hB.alloc hB.size _) (by omega); clear o5))
        have kC := cell_regrown (bC.cellv (prefA_0 N lc))
        refine wp_region_quiet_below (by kernel_rfl) (by kernel_rfl) ?_
        repeat (first | (go_big_quiet_want; refine quiet_load_row 23 (.tmp 4) (by rfl) (w.heap.size) (by rfl) 23 (labA l) (0, 0) _ (heap_regrown bL) Try.underlying23 (by rfl) (hz23 l hl) ?_; simp only [Act.put, List.setIfInBounds_toArray, List.set_cons_succ, List.set_cons_zero]; go_big_quiet_on) | (go_big_quiet_want; refine quiet_load_blk 23 (.tmp 19) (by rfl) (1) (by rfl) (heap_regrown bC) (labA lc) (prefA_lab N lc) _ Try.underlying23 (by rfl) (hz23 _ hlc) ?_; simp only [Act.put, List.setIfInBounds_toArray, List.set_cons_succ, List.set_cons_zero]; go_big_quiet_on) | (go_big_quiet_want; refine quiet_bin .neq 23 23 (.tmp 20) (.tmp 23) (by rfl) (labA lc) (labA lc) (by rfl) (by rfl) guard23 (.bool false) (hE0.out) ?_; simp only [Act.put, List.setIfInBounds_toArray, List.set_cons_succ, List.set_cons_zero]; go_big_quiet_on) | go_big_quiet_step (first | with_reducible exact calls_regrown _ (fun W _ => awake_any W) | with_reducible exact calls_regrown _ (fun W _ => hR.out W) | fail))
        refine wpQuiet_nil ?_
        intro w1 hw1
        have hb1 := below_of_regrown hw1
        clear hw1
        replace bL := bL.at_ hb1
        replace bP := bP.at_ hb1
        replace bQ := bQ.at_ hb1
        replace bC := bC.at_ hb1
        replace hB := hB.trans (hb1.mono hB.size)
        clear hb1
        have kP := bP.cellv (prefA_0 n p)
        go_wp2_with (first | (refine wpList_load_blk (by rfl) 23 (.tmp 36) (by rfl) (1) (by rfl) (bP) (labA p) (prefA_lab n p) _ Try.underlying23 (by rfl) (hz23 p hp) ?_; simp only [Act.put, List.setIfInBounds_toArray, List.set_cons_succ, List.set_cons_zero]) | (go_at_call 20; with_reducible refine (HG.out _).mono ?_; rintro e wn ⟨rfl, hbn⟩; replace bL := bL.at_ hbn; replace bP := bP.at_ hbn; replace bQ := bQ.at_ hbn; replace bC := bC.at_ hbn; replace hB := hB.trans (hbn.mono hB.size); clear hbn))
        have kP := cell_regrown (bP.cellv (prefA_0 n p))
        refine wp_region_quiet_below (by kernel_rfl) (by kernel_rfl) ?_
        repeat (first | (go_big_quiet_want; refine quiet_load_row 23 (.tmp 4) (by rfl) (w.heap.size) (by rfl) 23 (labA l) (0, 0) _ (heap_regrown bL) Try.underlying23 (by rfl) (hz23 l hl) ?_; simp only [Act.put, List.setIfInBounds_toArray, List.set_cons_succ, List.set_cons_zero]; go_big_quiet_on) | (go_big_quiet_want; refine quiet_load_blk 23 (.tmp 45) (by rfl) (1) (by rfl) (heap_regrown bP) (labA p) (prefA_lab n p) _ Try.underlying23 (by rfl) (hz23 p hp) ?_; simp only [Act.put, List.setIfInBounds_toArray, List.set_cons_succ, List.set_cons_zero]; go_big_quiet_on) | (go_big_quiet_want; refine quiet_bin .eql 23 23 (.tmp 44) (.tmp 46) (by rfl) (labA (B.cut l (min n.toNat 256))) (labA p) (by rfl) (by rfl) guard23 (.bool x1) (hE1.out) ?_; simp only [Act.put, List.setIfInBounds_toArray, List.set_cons_succ, List.set_cons_zero]; go_big_quiet_on) | go_big_quiet_step (first | with_reducible exact calls_regrown _ (fun W _ => hR1.out W) | fail))
        refine wpQuiet_nil ?_
        intro w1 hw1
        have hb1 := below_of_regrown hw1
        clear hw1
        replace bL := bL.at_ hb1
        replace bP := bP.at_ hb1
        replace bQ := bQ.at_ hb1
        replace bC := bC.at_ hb1
        replace hB := hB.trans (hb1.mono hB.size)
        clear hb1
        clear kP
        have kP := cell_regrown (bP.cellv (prefA_0 n p))
        have kQ := cell_regrown (bQ.cellv (prefA_0 m q))
        go_wp2_with fail
        refine wp_region_quiet_below (by kernel_rfl) (by kernel_rfl) ?_
        repeat (first | (go_big_quiet_want; refine quiet_load_blk 23 (.tmp 53) (by rfl) (1) (by rfl) (heap_regrown bQ) (labA q) (prefA_lab m q) _ Try.underlying23 (by rfl) (hz23 q hq) ?_; simp only [Act.put, List.setIfInBounds_toArray, List.set_cons_succ, List.set_cons_zero]; go_big_quiet_on) | (go_big_quiet_want; refine quiet_load_blk 23 (.tmp 65) (by rfl) (1) (by rfl) (heap_regrown bQ) (labA q) (prefA_lab m q) _ Try.underlying23 (by rfl) (hz23 q hq) ?_; simp only [Act.put, List.setIfInBounds_toArray, List.set_cons_succ, List.set_cons_zero]; go_big_quiet_on) | (go_big_quiet_want; refine quiet_load_blk 23 (.tmp 70) (by rfl) (1) (by rfl) (heap_regrown bP) (labA p) (prefA_lab n p) _ Try.underlying23 (by rfl) (hz23 p hp) ?_; simp only [Act.put, List.setIfInBounds_toArray, List.set_cons_succ, List.set_cons_zero]; go_big_quiet_on) | (go_big_quiet_want; refine quiet_bin .eql 23 23 (.tmp 69) (.tmp 71) (by rfl) (labA (B.cut q (min n.toNat 256))) (labA p) (by rfl) (by rfl) guard23 (.bool x2) (hE2.out) ?_; simp only [Act.put, List.setIfInBounds_toArray, List.set_cons_succ, List.set_cons_zero]; go_big_quiet_on) | go_big_quiet_step (first | with_reducible exact calls_regrown _ (fun W _ => HQ.out W) | with_reducible exact calls_regrown _ (fun W _ => hR2.out W) | fail))
        refine wpQuiet_nil ?_
        intro w1 hw1
        have hb1 := below_of_regrown hw1
        clear hw1
        replace bL := bL.at_ hb1
        replace bP := bP.at_ hb1
        replace bQ := bQ.at_ hb1
        replace bC := bC.at_ hb1
        replace hB := hB.trans (hb1.mono hB.size)
        clear hb1
        clear kP kQ
        go_wp2_with (first | (refine wpList_load_blk (by rfl) 29 (.tmp 6) (by rfl) 0 (by rfl) (bP) (prefA n p) whole_at _ Try.underlying29 (by rfl) (hz29 _ _ hp) ?_; simp only [Act.put, List.setIfInBounds_toArray, List.set_cons_succ, List.set_cons_zero]) | (refine wpList_load_blk (by rfl) 29 (.tmp 7) (by rfl) 0 (by rfl) (bQ) (prefA m q) whole_at _ Try.underlying29 (by rfl) (hz29 _ _ hq) ?_; simp only [Act.put, List.setIfInBounds_toArray, List.set_cons_succ, List.set_cons_zero]) | (refine wpList_load_blk (by rfl) 23 (.tmp 4) (by rfl) 0 (by rfl) (bL) (labA l) whole_at _ Try.underlying23 (by rfl) (hz23 l hl) ?_; simp only [Act.put, List.setIfInBounds_toArray, List.set_cons_succ, List.set_cons_zero]) | (go_at_call 25; with_reducible refine (HG'.out _).mono ?_; rintro e wn ⟨rfl, hbn⟩; replace bL := bL.at_ hbn; replace bP := bP.at_ hbn; replace bQ := bQ.at_ hbn; replace bC := bC.at_ hbn; replace hB := hB.trans (hbn.mono hB.size); clear hbn) | (go_at_call 23; with_reducible refine (HH.out _).mono ?_; rintro e wn ⟨rfl, hbn⟩; replace bL := bL.at_ hbn; replace bP := bP.at_ hbn; replace bQ := bQ.at_ hbn; replace bC := bC.at_ hbn; replace hB := hB.trans (hbn.mono hB.size); clear hbn) | (go_at_call 26; with_reducible refine (HO.out _).mono ?_; rintro e wn ⟨rfl, hbn⟩; replace bL := bL.at_ hbn; replace bP := bP.at_ hbn; replace bQ := bQ.at_ hbn; replace bC := bC.at_ hbn; replace hB := hB.trans (hbn.mono hB.size); clear hbn))
        go_ret
        exact ⟨rfl, hB⟩
      · have hd : decide (n ≤ m) = true := by simpa using hle
        rw [show B.over n p m q = (B.cut q (min n.toNat 256) == p) from by unfold B.over; rw [hgq, hd, has_eq hg]; rfl] at hO
        clear hle
        have HG := Lib.hid hG
        have HG' := Lib.hid hG'
        have HQ := Lib.hid hQ
        have HH := Lib.hid hH
        have HO := Lib.hid hO
        generalize (B.cut l (min n.toNat 256) == p) = x1 at HH hE1
        generalize (B.cut q (min n.toNat 256) == p) = x2 at HO hE2
        clear hG hG' hQ hH hO
        go_enter Try.func7, Try.ntmps7
        go_wp2_with (first | (refine wpList_load_blk (by rfl) 23 (.tmp 4) (by rfl) 0 (by rfl) (bL) (labA l) whole_at _ Try.underlying23 (by rfl) (hz23 l hl) ?_; simp only [Act.put, List.setIfInBounds_toArray, List.set_cons_succ, List.set_cons_zero]) | (go_at_call 22; with_reducible refine (hC.out _).mono ?_; rintro e wn ⟨rfl, hbn⟩; replace bL := bL.at_ hbn; replace bP := bP.at_ hbn; replace bQ := bQ.at_ hbn; replace hB := hB.trans (hbn.mono hB.size); clear hbn) | (refine wpList_fresh (by rfl) 29 (by rfl) _ fresh_pref ?_; simp only [Act.put, List.setIfInBounds_toArray, List.set_cons_succ, List.set_cons_zero]; try simp only [World.size_alloc]) | ((refine wpList_store_blk (by rfl) 29 (.tmp 9) (.tmp 15) (by rfl) (0) (prefA N lc) (by rfl) (by rfl) ((Blk.new _ _ _)) (by rw [prefA_size, prefA_size, zlab_length, hlc]; omega) (hz29 _ _ hlc) (prefA_all _ _) ?_; simp only [Act.put]); intro w5 bC o5; rw [splice_all _ _ (by rw [prefA_size, prefA_size, zlab_length, hlc])] at bC; have hlQ := bQ.lt; replace bL := (bL.alloc _).only o5 (by omega); replace bP := (bP.alloc _).only o5 (by omega); replace bQ := (bQ.alloc _).only o5 (by omega); replace hB := o5.below (hB.alloc hB.size _) (by omega); clear o5))
        have kC := cell_regrown (bC.cellv (prefA_0 N lc))
        refine wp_region_quiet_below (by kernel_rfl) (by kernel_rfl) ?_
        repeat (first | (go_big_quiet_want; refine quiet_load_row 23 (.tmp 4) (by rfl) (w.heap.size) (by rfl) 23 (labA l) (0, 0) _ (heap_regrown bL) Try.underlying23 (by rfl) (hz23 l hl) ?_; simp only [Act.put, List.setIfInBounds_toArray, List.set_cons_succ, List.set_cons_zero]; go_big_quiet_on) | (go_big_quiet_want; refine quiet_load_blk 23 (.tmp 19) (by rfl) (1) (by rfl) (heap_regrown bC) (labA lc) (prefA_lab N lc) _ Try.underlying23 (by rfl) (hz23 _ hlc) ?_; simp only [Act.put, List.setIfInBounds_toArray, List.set_cons_succ, List.set_cons_zero]; go_big_quiet_on) | (go_big_quiet_want; refine quiet_bin .neq 23 23 (.tmp 20) (.tmp 23) (by rfl) (labA lc) (labA lc) (by rfl) (by rfl) guard23 (.bool false) (hE0.out) ?_; simp only [Act.put, List.setIfInBounds_toArray, List.set_cons_succ, List.set_cons_zero]; go_big_quiet_on) | go_big_quiet_step (first | with_reducible exact calls_regrown _ (fun W _ => awake_any W) | with_reducible exact calls_regrown _ (fun W _ => hR.out W) | fail))
        refine wpQuiet_nil ?_
        intro w1 hw1
        have hb1 := below_of_regrown hw1
        clear hw1
        replace bL := bL.at_ hb1
        replace bP := bP.at_ hb1
        replace bQ := bQ.at_ hb1
        replace bC := bC.at_ hb1
        replace hB := hB.trans (hb1.mono hB.size)
        clear hb1
        have kP := bP.cellv (prefA_0 n p)
        go_wp2_with (first | (refine wpList_load_blk (by rfl) 23 (.tmp 36) (by rfl) (1) (by rfl) (bP) (labA p) (prefA_lab n p) _ Try.underlying23 (by rfl) (hz23 p hp) ?_; simp only [Act.put, List.setIfInBounds_toArray, List.set_cons_succ, List.set_cons_zero]) | (go_at_call 20; with_reducible refine (HG.out _).mono ?_; rintro e wn ⟨rfl, hbn⟩; replace bL := bL.at_ hbn; replace bP := bP.at_ hbn; replace bQ := bQ.at_ hbn; replace bC := bC.at_ hbn; replace hB := hB.trans (hbn.mono hB.size); clear hbn))
        have kP := cell_regrown (bP.cellv (prefA_0 n p))
        refine wp_region_quiet_below (by kernel_rfl) (by kernel_rfl) ?_
        repeat (first | (go_big_quiet_want; refine quiet_load_row 23 (.tmp 4) (by rfl) (w.heap.size) (by rfl) 23 (labA l) (0, 0) _ (heap_regrown bL) Try.underlying23 (by rfl) (hz23 l hl) ?_; simp only [Act.put, List.setIfInBounds_toArray, List.set_cons_succ, List.set_cons_zero]; go_big_quiet_on) | (go_big_quiet_want; refine quiet_load_blk 23 (.tmp 45) (by rfl) (1) (by rfl) (heap_regrown bP) (labA p) (prefA_lab n p) _ Try.underlying23 (by rfl) (hz23 p hp) ?_; simp only [Act.put, List.setIfInBounds_toArray, List.set_cons_succ, List.set_cons_zero]; go_big_quiet_on) | (go_big_quiet_want; refine quiet_bin .eql 23 23 (.tmp 44) (.tmp 46) (by rfl) (labA (B.cut l (min n.toNat 256))) (labA p) (by rfl) (by rfl) guard23 (.bool x1) (hE1.out) ?_; simp only [Act.put, List.setIfInBounds_toArray, List.set_cons_succ, List.set_cons_zero]; go_big_quiet_on) | go_big_quiet_step (first | with_reducible exact calls_regrown _ (fun W _ => hR1.out W) | fail))
        refine wpQuiet_nil ?_
        intro w1 hw1
        have hb1 := below_of_regrown hw1
        clear hw1
        replace bL := bL.at_ hb1
        replace bP := bP.at_ hb1
        replace bQ := bQ.at_ hb1
        replace bC := bC.at_ hb1
        replace hB := hB.trans (hb1.mono hB.size)
        clear hb1
        clear kP
        have kP := cell_regrown (bP.cellv (prefA_0 n p))
        have kQ := cell_regrown (bQ.cellv (prefA_0 m q))
        go_wp2_with fail
        refine wp_region_quiet_below (by kernel_rfl) (by kernel_rfl) ?_
        repeat (first | (go_big_quiet_want; refine quiet_load_blk 23 (.tmp 53) (by rfl) (1) (by rfl) (heap_regrown bQ) (labA q) (prefA_lab m q) _ Try.underlying23 (by rfl) (hz23 q hq) ?_; simp only [Act.put, List.setIfInBounds_toArray, List.set_cons_succ, List.set_cons_zero]; go_big_quiet_on) | (go_big_quiet_want; refine quiet_load_blk 23 (.tmp 65) (by rfl) (1) (by rfl) (heap_regrown bQ) (labA q) (prefA_lab m q) _ Try.underlying23 (by rfl) (hz23 q hq) ?_; simp only [Act.put, List.setIfInBounds_toArray, List.set_cons_succ, List.set_cons_zero]; go_big_quiet_on) | (go_big_quiet_want; refine quiet_load_blk 23 (.tmp 70) (by rfl) (1) (by rfl) (heap_regrown bP) (labA p) (prefA_lab n p) _ Try.underlying23 (by rfl) (hz23 p hp) ?_; simp only [Act.put, List.setIfInBounds_toArray, List.set_cons_succ, List.set_cons_zero]; go_big_quiet_on) | (go_big_quiet_want; refine quiet_bin .eql 23 23 (.tmp 69) (.tmp 71) (by rfl) (labA (B.cut q (min n.toNat 256))) (labA p) (by rfl) (by rfl) guard23 (.bool x2) (hE2.out) ?_; simp only [Act.put, List.setIfInBounds_toArray, List.set_cons_succ, List.set_cons_zero]; go_big_quiet_on) | go_big_quiet_step (first | with_reducible exact calls_regrown _ (fun W _ => HQ.out W) | with_reducible exact calls_regrown _ (fun W _ => hR2.out W) | fail))
        refine wpQuiet_nil ?_
        intro w1 hw1
        have hb1 := below_of_regrown hw1
        clear hw1
        replace bL := bL.at_ hb1
        replace bP := bP.at_ hb1
        replace bQ := bQ.at_ hb1
        replace bC := bC.at_ hb1
        replace hB := hB.trans (hb1.mono hB.size)
        clear hb1
        clear kP kQ
        go_wp2_with (first | (refine wpList_load_blk (by rfl) 29 (.tmp 6) (by rfl) 0 (by rfl) (bP) (prefA n p) whole_at _ Try.underlying29 (by rfl) (hz29 _ _ hp) ?_; simp only [Act.put, List.setIfInBounds_toArray, List.set_cons_succ, List.set_cons_zero]) | (refine wpList_load_blk (by rfl) 29 (.tmp 7) (by rfl) 0 (by rfl) (bQ) (prefA m q) whole_at _ Try.underlying29 (by rfl) (hz29 _ _ hq) ?_; simp only [Act.put, List.setIfInBounds_toArray, List.set_cons_succ, List.set_cons_zero]) | (refine wpList_load_blk (by rfl) 23 (.tmp 4) (by rfl) 0 (by rfl) (bL) (labA l) whole_at _ Try.underlying23 (by rfl) (hz23 l hl) ?_; simp only [Act.put, List.setIfInBounds_toArray, List.set_cons_succ, List.set_cons_zero]) | (go_at_call 25; with_reducible refine (HG'.out _).mono ?_; rintro e wn ⟨rfl, hbn⟩; replace bL := bL.at_ hbn; replace bP := bP.at_ hbn; replace bQ := bQ.at_ hbn; replace bC := bC.at_ hbn; replace hB := hB.trans (hbn.mono hB.size); clear hbn) | (go_at_call 23; with_reducible refine (HH.out _).mono ?_; rintro e wn ⟨rfl, hbn⟩; replace bL := bL.at_ hbn; replace bP := bP.at_ hbn; replace bQ := bQ.at_ hbn; replace bC := bC.at_ hbn; replace hB := hB.trans (hbn.mono hB.size); clear hbn) | (go_at_call 26; with_reducible refine (HO.out _).mono ?_; rintro e wn ⟨rfl, hbn⟩; replace bL := bL.at_ hbn; replace bP := bP.at_ hbn; replace bQ := bQ.at_ hbn; replace bC := bC.at_ hbn; replace hB := hB.trans (hbn.mono hB.size); clear hbn))
        go_ret
        exact ⟨rfl, hB⟩

theorem cuts_law : LawHolds 7 Try.f7 := by
  intro H enc W base args ds p hval hA
  rw [Try.params7] at hA hval
  obtain ⟨v0, vs0, d0, ds0, p0, q0, hargs, rfl, rfl, k0, r0⟩ := trodAll_cons hA
  obtain ⟨v1, vs1, d1, ds1, p1, q1, rfl, rfl, rfl, k1, r1⟩ := trodAll_cons r0
  obtain ⟨v2, vs2, d2, ds2, p2, q2, rfl, rfl, rfl, k2, r2⟩ := trodAll_cons r1
  obtain ⟨v3, vs3, d3, ds3, p3, q3, rfl, rfl, rfl, k3, r3⟩ := trodAll_cons r2
  obtain ⟨rfl, rfl, rfl⟩ := trodAll_nil r3
  obtain rfl : args = #[v0, v1, v2, v3] := by cases args; simp_all
  obtain ⟨l, hl, rfl⟩ := open_lab (hval 0 23 v0 rfl rfl) k0
  obtain ⟨k, rfl, _, _, _⟩ := open_int Try.underlying3 (hval 1 3 v1 rfl rfl) k1
  obtain ⟨n, p, hn, hp, rfl⟩ := open_pref (hval 2 29 v2 rfl rfl) k2
  obtain ⟨m, q, hm, hq, rfl⟩ := open_pref (hval 3 29 v3 rfl rfl) k3
  exact cuts_walk l hl k n m hn hm p q hp hq W

theorem cuts_lifted (os : Os) (started : os.Started) (H : Type) (enc : TypeId × Value → H) :
    ReturnsInHanded {} Try.checked os 7 .any (Rows.bitsCutsSpec.pre6 enc Try.prog Try.f7 Rows.bitsCutsRow.domain false) (Rows.bitsCutsSpec.post enc Try.prog Try.f7 false true false false) :=
  lifted_of started (by kernel_rfl) Try.func7
    (ChangeSpec.witness6 (enc := enc) (C := Try.checked) false ⟨#[], #[.agg (labA zlab), .int .i64 0, .agg (prefA 0 zlab), .agg (prefA 0 zlab)], []⟩ 8 (by kernel_rfl) (by kernel_rfl) (by kernel_rfl) (by kernel_rfl))
    rfl (by kernel_rfl) (fun ds h => by rw [Try.params7] at h; match ds, h with | [_, _, _, _], _ => rfl) (by rw [Try.params7]; exact of_decide_eq_true (by kernel_rfl)) cuts_law
theorem cuts_over : Rows.bitsCutsRow.holds Try.pinned (OpenSpec.ofChange Rows.bitsCutsSpec) :=
  OpenClaim.holds_of_wide 7 Try.f7 rfl rfl rfl rfl rfl rfl rfl ⟨rfl, rfl, rfl, rfl, rfl⟩ rfl rfl rfl rfl rfl (by kernel_rfl) Try.func7 (by kernel_rfl)
    (of_decide_eq_true (by kernel_rfl)) (by unfold Func.isWrapper; first | (rw [if_pos (by decide +kernel)]; kernel_rfl) | (rw [if_neg (by decide +kernel)]; exact ⟨rfl, rfl⟩))
    (fun os started H enc _ => cuts_lifted os started H enc)
/-- The statement. -/
theorem cuts_proved : Rows.BitsCutsSaid := cuts_over
#print axioms cuts_proved
end Go.Proofs.Ytokjmdlklhkjlaa

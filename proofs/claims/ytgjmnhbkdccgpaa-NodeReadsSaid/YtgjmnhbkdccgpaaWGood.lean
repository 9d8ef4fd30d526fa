/- The walks of prefixes that are told to be in form: the reference's Good, bits.Good, Has, Over. -/
import Derived.Test.YtgjmnhbkdccgpaaWCut2
namespace Go.Proofs.Ytgjmnhbkdccgpaa
open Go.RowKit

theorem cells23 : Try.prog.cellsOf 25 = 32 := by kernel_rfl
theorem cells5 : Try.prog.cellsOf 5 = 1 := by kernel_rfl
theorem cells29 : Try.prog.cellsOf 63 = 33 := by kernel_rfl
theorem cells3 : Try.prog.cellsOf 3 = 1 := by kernel_rfl
theorem formed23 (l : List UInt8) (hl : l.length = 32) : (Value.agg (labA l)).formed Try.prog 25 = true := by
  unfold Value.formed
  rw [Try.underlying25]
  simp [labA_size, hl, cells23]
theorem lits23 (l : List UInt8) (hl : l.length = 32) (d : Nat) : Try.prog.keyLits (d + 2) 25 (l.map byteV) = some (l.map byteL) :=
  lits_bytes l hl Try.underlying25 Try.underlying5 cells5 cells23 d
theorem guard23 : Try.prog.eqGuardType Try.prog.depth 25 = false := by kernel_rfl
theorem guard29 : Try.prog.eqGuardType Try.prog.depth 63 = false := by kernel_rfl
/-- '==' of two labels. -/
theorem eql23 (l m : List UInt8) (hl : l.length = 32) (hm : m.length = 32) (w : World) : (binOp .eql 25 (.agg (labA l)) (.agg (labA m))).run Try.prog w = .ok (.bool (l == m)) w :=
  eql_lits (m := 2) (D := 2) (D' := 2) (by kernel_rfl) (by omega) (formed23 l hl) (formed23 m hm) (lits23 l hl 0) (lits23 m hm 0) (by rw [map_byteL]; simp) w
theorem neq23 (l m : List UInt8) (hl : l.length = 32) (hm : m.length = 32) (w : World) : (binOp .neq 25 (.agg (labA l)) (.agg (labA m))).run Try.prog w = .ok (.bool (!(l == m))) w :=
  neq_lits (m := 2) (D := 2) (D' := 2) (by kernel_rfl) (by omega) (formed23 l hl) (formed23 m hm) (lits23 l hl 0) (lits23 m hm 0) (by rw [map_byteL]; simp) w
theorem formed29 (n : Int) (l : List UInt8) (hl : l.length = 32) : (Value.agg (prefA n l)).formed Try.prog 63 = true := by
  unfold Value.formed
  rw [Try.underlying63]
  simp [prefA_size, hl, cells29]
theorem lits29 (n : Int) (l : List UInt8) (hl : l.length = 32) (hn : (Lit.int .i64 n).wf = true) : Try.prog.keyLits 3 63 (.int .i64 n :: l.map byteV) = some (.int .i64 n :: l.map byteL) := by
  have h23 := lits23 l hl 0
  unfold Program.keyLits
  rw [Try.underlying63]
  dsimp only
  rw [if_pos ⟨by rw [cells29]; simp [hl], by kernel_rfl⟩]
  simp only [List.mapM_cons, List.mapM_nil, cells3, cells23, List.drop_zero, List.take_succ_cons, List.take_zero, List.drop_succ_cons]
  have e1 : Try.prog.keyLits 2 3 [.int .i64 n] = some [.int .i64 n] := by
    unfold Program.keyLits
    rw [Try.underlying3]
    dsimp only
    rw [if_pos ⟨rfl, hn⟩]
  have e2 : (l.map byteV).take 32 = l.map byteV := List.take_of_length_le (by simp [hl])
  rw [e1, e2, h23]
  simp
/-- '==' of two prefixes. -/
theorem eql29 (n k : Int) (l m : List UInt8) (hl : l.length = 32) (hm : m.length = 32) (hn : (Lit.int .i64 n).wf = true) (hk : (Lit.int .i64 k).wf = true) (w : World) :
    (binOp .eql 63 (.agg (prefA n l)) (.agg (prefA k m))).run Try.prog w = .ok (.bool ((n == k) && (l == m))) w :=
  eql_lits (m := 3) (D := 3) (D' := 3) (by kernel_rfl) (by omega) (formed29 n l hl) (formed29 k m hm) (lits29 n l hl hn) (lits29 k m hm hk) (by simp [map_byteL]) w
theorem neq29 (n k : Int) (l m : List UInt8) (hl : l.length = 32) (hm : m.length = 32) (hn : (Lit.int .i64 n).wf = true) (hk : (Lit.int .i64 k).wf = true) (w : World) :
    (binOp .neq 63 (.agg (prefA n l)) (.agg (prefA k m))).run Try.prog w = .ok (.bool (!((n == k) && (l == m)))) w :=
  neq_lits (m := 3) (D := 3) (D' := 3) (by kernel_rfl) (by omega) (formed29 n l hl) (formed29 k m hm) (lits29 n l hl hn) (lits29 k m hm hk) (by simp [map_byteL]) w

theorem good_in {n : Int} {l : List UInt8} (h0 : 0 ≤ n) (h1 : n ≤ 256) : B.good n l = (B.cut l n.toNat == l) := by
  unfold B.good; simp [h0, h1]
theorem good_out {n : Int} {l : List UInt8} (h : n < 0 ∨ 256 < n) : B.good n l = false := by
  unfold B.good
  rw [decide_eq_false (by omega)]; rfl

set_option maxRecDepth 100000 in
set_option maxHeartbeats 1000000 in
/-- The reference's Good. -/
theorem rgood_any (n : Int) (l : List UInt8) (hl : l.length = 32) (w : World) :
    Calls Try.prog 110 #[.int .i64 n, .agg (labA l)] w fun e w' => e = .returned (.bool (B.good n l)) ∧ Below w.heap.size w w' := by
  have hz : (Try.prog.info? 25).map (·.size) = some (labA l).size := by rw [labA_size, hl]; kernel_rfl
  have b0 : Blk (w.alloc (.cells (labA l) 25)) w.heap.size (labA l) 25 := Blk.new _ _ _
  by_cases hin : 0 ≤ n ∧ n ≤ 256
  · obtain ⟨h0, h1⟩ := hin
    have hd0 : decide (0 ≤ n) = true := by simpa using h0
    have hd1 : decide (n ≤ 256) = true := by simpa using h1
    have hg := Lib.hid (good_in (l := l) h0 h1)
    have hmin : min n.toNat 256 = n.toNat := by omega
    have hc := rcut_any l hl n
    rw [hmin] at hc
    have Hc := Lib.hid hc
    clear hc hmin
    go_enter Try.func110, Try.ntmps110
    go_wp2
    refine wp_region_quiet_below (by kernel_rfl) (by kernel_rfl) ?_
    repeat (first | (go_big_quiet_want; refine quiet_load_row 25 (.tmp 3) (by rfl) (w.heap.size) (by rfl) 25 (labA l) (0, 0) _ (heap_regrown b0) Try.underlying25 (by rfl) hz ?_; simp only [Act.put, List.setIfInBounds_toArray, List.set_cons_succ, List.set_cons_zero]; go_big_quiet_on) | (go_big_quiet_want; refine quiet_bin .eql 25 25 (.tmp 14) (.tmp 15) (by rfl) (labA (B.cut l n.toNat)) (labA l) (by rfl) (by rfl) guard23 (.bool (B.cut l n.toNat == l)) (eql23 _ _ (B.cut_length _ _) hl) ?_; simp only [Act.put, List.setIfInBounds_toArray, List.set_cons_succ, List.set_cons_zero]; go_big_quiet_on) | go_big_quiet_step (first | with_reducible exact calls_regrown _ (fun W _ => Hc.out W) | fail))
    refine wpQuiet_nil ?_
    intro w1 hw1
    have hb1 := below_of_regrown hw1
    clear hw1
    go_wp2
    go_ret
    exact ⟨ret_bool (by rw [hg.out]), ((Below.refl _ _).alloc (Nat.le_refl _) _).trans (hb1.mono (by simp))⟩
  · have hg := Lib.hid (good_out (n := n) (l := l) (by omega))
    rcases Int.lt_or_le n 0 with h0 | h0
    · have hd0 : decide (0 ≤ n) = false := by simp; omega
      clear hin h0
      go_enter Try.func110, Try.ntmps110
      go_wp2
      refine wp_region_quiet_below (by kernel_rfl) (by kernel_rfl) ?_
      repeat (first | fail | go_big_quiet_step (first | fail | fail))
      refine wpQuiet_nil ?_
      intro w1 hw1
      have hb1 := below_of_regrown hw1
      clear hw1
      go_wp2
      go_ret
      exact ⟨ret_bool (by rw [hg.out]), ((Below.refl _ _).alloc (Nat.le_refl _) _).trans (hb1.mono (by simp))⟩
    · have hd0 : decide (0 ≤ n) = true := by simpa using h0
      have hd1 : decide (n ≤ 256) = false := by simp; omega
      clear hin h0
      go_enter Try.func110, Try.ntmps110
      go_wp2
      refine wp_region_quiet_below (by kernel_rfl) (by kernel_rfl) ?_
      repeat (first | fail | go_big_quiet_step (first | fail | fail))
      refine wpQuiet_nil ?_
      intro w1 hw1
      have hb1 := below_of_regrown hw1
      clear hw1
      go_wp2
      go_ret
      exact ⟨ret_bool (by rw [hg.out]), ((Below.refl _ _).alloc (Nat.le_refl _) _).trans (hb1.mono (by simp))⟩

set_option maxRecDepth 100000 in
set_option maxHeartbeats 1000000 in
/-- bits.Good. -/
theorem good_any (n : Int) (hn : (Lit.int .i64 n).wf = true) (l : List UInt8) (hl : l.length = 32) (w : World) :
    Calls Try.prog 126 #[.agg (prefA n l)] w fun e w' => e = .returned (.bool (B.good n l)) ∧ Below w.heap.size w w' := by
  have hz : (Try.prog.info? 25).map (·.size) = some (labA l).size := by rw [labA_size, hl]; kernel_rfl
  have hz29 : (Try.prog.info? 63).map (·.size) = some (prefA n l).size := by rw [prefA_size, hl]; kernel_rfl
  have b0 : Blk (w.alloc (.cells (prefA n l) 63)) w.heap.size (prefA n l) 63 := Blk.new _ _ _
  have k0 := cell_regrown (b0.cellv (prefA_0 n l))
  by_cases hin : 0 ≤ n ∧ n ≤ 256
  · obtain ⟨h0, h1⟩ := hin
    have hd0 : decide (0 ≤ n) = true := by simpa using h0
    have hd1 : decide (n ≤ 256) = true := by simpa using h1
    have hg := Lib.hid (good_in (l := l) h0 h1)
    have hmin : min n.toNat 256 = n.toNat := by omega
    have hmin2 : ((n.toNat : Nat) : Int) = n := by omega
    have hc := cut_any l hl n
    rw [hmin, hmin2] at hc
    have Hc := Lib.hid hc
    clear hc hmin hmin2
    go_enter Try.func126, Try.ntmps126
    go_wp2
    refine wp_region_quiet_below (by kernel_rfl) (by kernel_rfl) ?_
    repeat (first | (go_big_quiet_want; refine quiet_load_row 63 (.tmp 1) (by rfl) (w.heap.size) (by rfl) 63 (prefA n l) (0, 0) _ (heap_regrown b0) Try.underlying63 (by rfl) hz29 ?_; simp only [Act.put, List.setIfInBounds_toArray, List.set_cons_succ, List.set_cons_zero]; go_big_quiet_on) | (go_big_quiet_want; refine quiet_load_blk 25 (.tmp 13) (by rfl) (1) (by rfl) (heap_regrown b0) (labA l) (prefA_lab n l) _ Try.underlying25 (by rfl) hz ?_; simp only [Act.put, List.setIfInBounds_toArray, List.set_cons_succ, List.set_cons_zero]; go_big_quiet_on) | (go_big_quiet_want; refine quiet_load_blk 25 (.tmp 12) (by rfl) (1) (by rfl) (heap_regrown b0) (labA l) (prefA_lab n l) _ Try.underlying25 (by rfl) hz ?_; simp only [Act.put, List.setIfInBounds_toArray, List.set_cons_succ, List.set_cons_zero]; go_big_quiet_on) | (go_big_quiet_want; refine quiet_bin .eql 63 63 (.tmp 16) (.tmp 17) (by rfl) (prefA n (B.cut l n.toNat)) (prefA n l) (by rfl) (by rfl) guard29 (.bool ((n == n) && (B.cut l n.toNat == l))) (eql29 n n _ _ (B.cut_length _ _) hl hn hn) ?_; simp only [Act.put, List.setIfInBounds_toArray, List.set_cons_succ, List.set_cons_zero]; go_big_quiet_on) | go_big_quiet_step (first | with_reducible exact calls_regrown _ (fun W _ => Hc.out W) | fail))
    refine wpQuiet_nil ?_
    intro w1 hw1
    have hb1 := below_of_regrown hw1
    clear hw1
    go_wp2
    go_ret
    exact ⟨ret_bool (by rw [hg.out]), ((Below.refl _ _).alloc (Nat.le_refl _) _).trans (hb1.mono (by simp))⟩
  · have hg := Lib.hid (good_out (n := n) (l := l) (by omega))
    rcases Int.lt_or_le n 0 with h0 | h0
    · have hd0 : decide (0 ≤ n) = false := by simp; omega
      clear hin h0
      go_enter Try.func126, Try.ntmps126
      go_wp2
      refine wp_region_quiet_below (by kernel_rfl) (by kernel_rfl) ?_
      repeat (first | fail | go_big_quiet_step (first | fail | fail))
      refine wpQuiet_nil ?_
      intro w1 hw1
      have hb1 := below_of_regrown hw1
      clear hw1
      go_wp2
      go_ret
      exact ⟨ret_bool (by rw [hg.out]), ((Below.refl _ _).alloc (Nat.le_refl _) _).trans (hb1.mono (by simp))⟩
    · have hd0 : decide (0 ≤ n) = true := by simpa using h0
      have hd1 : decide (n ≤ 256) = false := by simp; omega
      clear hin h0
      go_enter Try.func126, Try.ntmps126
      go_wp2
      refine wp_region_quiet_below (by kernel_rfl) (by kernel_rfl) ?_
      repeat (first | fail | go_big_quiet_step (first | fail | fail))
      refine wpQuiet_nil ?_
      intro w1 hw1
      have hb1 := below_of_regrown hw1
      clear hw1
      go_wp2
      go_ret
      exact ⟨ret_bool (by rw [hg.out]), ((Below.refl _ _).alloc (Nat.le_refl _) _).trans (hb1.mono (by simp))⟩
end Go.Proofs.Ytgjmnhbkdccgpaa

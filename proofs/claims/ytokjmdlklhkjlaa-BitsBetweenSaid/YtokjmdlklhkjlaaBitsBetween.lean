/- BitsBetween: of three labels in order the outer ones have nothing in common that the middle one has not with both: for any three labels. No condition. -/
import Derived.Test.YtokjmdlklhkjlaaWAwake1
import Derived.Test.YtokjmdlklhkjlaaOpenB
namespace Go.Proofs.Ytokjmdlklhkjlaa
open Go.ChangeShapes Go.WideShapes Go.ChangeAt Go.RowKit

set_option maxHeartbeats 4000000 in
theorem between_walk (a b c : List UInt8) (ha : a.length = 32) (hb : b.length = 32) (hc : c.length = 32) (w : World) :
    Calls Try.prog 5 #[.agg (labA a), .agg (labA b), .agg (labA c)] w fun e w' => e = .returned (.bool true) ∧ Below w.heap.size w w' := by
  have hza : (Try.prog.info? 23).map (·.size) = some (labA a).size := by rw [labA_size, ha]; kernel_rfl
  have hzb : (Try.prog.info? 23).map (·.size) = some (labA b).size := by rw [labA_size, hb]; kernel_rfl
  have hzc : (Try.prog.info? 23).map (·.size) = some (labA c).size := by rw [labA_size, hc]; kernel_rfl
  have bA : Blk (((w.alloc (.cells (labA a) 23)).alloc (.cells (labA b) 23)).alloc (.cells (labA c) 23)) w.heap.size (labA a) 23 := Blk.alloc (heap_alloc2_old _ _ _) _
  have bB : Blk (((w.alloc (.cells (labA a) 23)).alloc (.cells (labA b) 23)).alloc (.cells (labA c) 23)) (w.heap.size + 1) (labA b) 23 := Blk.alloc (heap_alloc2_new _ _ _) _
  have bC : Blk (((w.alloc (.cells (labA a) 23)).alloc (.cells (labA b) 23)).alloc (.cells (labA c) 23)) (w.heap.size + 1 + 1) (labA c) 23 := by
    have := Blk.new ((w.alloc (.cells (labA a) 23)).alloc (.cells (labA b) 23)) (labA c) 23
    simp only [World.size_alloc] at this
    exact this
  have hB : Below w.heap.size w (((w.alloc (.cells (labA a) 23)).alloc (.cells (labA b) 23)).alloc (.cells (labA c) 23)) := (((Below.refl _ _).alloc (Nat.le_refl _) _).alloc (by simp) _).alloc (by simp; omega) _
  have H1 := Lib.hid (ord_any a b ha hb)
  have H2 := Lib.hid (ord_any b c hb hc)
  have H3 := Lib.hid (ord_any a c ha hc)
  have H4 := Lib.hid (cmn_any a c ha hc)
  have H5 := Lib.hid (cmn_any a b ha hb)
  have H6 := Lib.hid (cmn_any b c hb hc)
  rcases Int.lt_or_le 0 (B.ord a b) with o1 | o1
  · have d1 : decide (0 < B.ord a b) = true := by simpa using o1
    clear o1
    go_enter Try.func5, Try.ntmps5
    go_wp2_with (first | (refine wpList_load_blk (by rfl) 23 (.tmp 3) (by rfl) 0 (by rfl) (bA) (labA a) whole_at _ Try.underlying23 (by rfl) hza ?_; simp only [Act.put, List.setIfInBounds_toArray, List.set_cons_succ, List.set_cons_zero]) | (refine wpList_load_blk (by rfl) 23 (.tmp 4) (by rfl) 0 (by rfl) (bB) (labA b) whole_at _ Try.underlying23 (by rfl) hzb ?_; simp only [Act.put, List.setIfInBounds_toArray, List.set_cons_succ, List.set_cons_zero]) | (refine wpList_load_blk (by rfl) 23 (.tmp 5) (by rfl) 0 (by rfl) (bC) (labA c) whole_at _ Try.underlying23 (by rfl) hzc ?_; simp only [Act.put, List.setIfInBounds_toArray, List.set_cons_succ, List.set_cons_zero]) | (go_at_call 15; with_reducible refine (H1.out _).mono ?_; rintro e wn ⟨rfl, hbn⟩; replace bA := bA.at_ hbn; replace bB := bB.at_ hbn; replace bC := bC.at_ hbn; replace hB := hB.trans (hbn.mono hB.size); clear hbn) | (go_at_call 15; with_reducible refine (H2.out _).mono ?_; rintro e wn ⟨rfl, hbn⟩; replace bA := bA.at_ hbn; replace bB := bB.at_ hbn; replace bC := bC.at_ hbn; replace hB := hB.trans (hbn.mono hB.size); clear hbn) | (go_at_call 17; with_reducible refine (H4.out _).mono ?_; rintro e wn ⟨rfl, hbn⟩; replace bA := bA.at_ hbn; replace bB := bB.at_ hbn; replace bC := bC.at_ hbn; replace hB := hB.trans (hbn.mono hB.size); clear hbn) | (go_at_call 12; with_reducible refine (awake_any _).mono ?_; rintro e wn ⟨rfl, hbn⟩; replace bA := bA.at_ hbn; replace bB := bB.at_ hbn; replace bC := bC.at_ hbn; replace hB := hB.trans (hbn.mono hB.size); clear hbn))
    go_ret
    exact ⟨rfl, hB⟩
  · have d1 : decide (0 < B.ord a b) = false := by simpa using o1
    rcases Int.lt_or_le 0 (B.ord b c) with o2 | o2
    · have d2 : decide (0 < B.ord b c) = true := by simpa using o2
      clear o1 o2
      go_enter Try.func5, Try.ntmps5
      go_wp2_with (first | (refine wpList_load_blk (by rfl) 23 (.tmp 3) (by rfl) 0 (by rfl) (bA) (labA a) whole_at _ Try.underlying23 (by rfl) hza ?_; simp only [Act.put, List.setIfInBounds_toArray, List.set_cons_succ, List.set_cons_zero]) | (refine wpList_load_blk (by rfl) 23 (.tmp 4) (by rfl) 0 (by rfl) (bB) (labA b) whole_at _ Try.underlying23 (by rfl) hzb ?_; simp only [Act.put, List.setIfInBounds_toArray, List.set_cons_succ, List.set_cons_zero]) | (refine wpList_load_blk (by rfl) 23 (.tmp 5) (by rfl) 0 (by rfl) (bC) (labA c) whole_at _ Try.underlying23 (by rfl) hzc ?_; simp only [Act.put, List.setIfInBounds_toArray, List.set_cons_succ, List.set_cons_zero]) | (go_at_call 15; with_reducible refine (H1.out _).mono ?_; rintro e wn ⟨rfl, hbn⟩; replace bA := bA.at_ hbn; replace bB := bB.at_ hbn; replace bC := bC.at_ hbn; replace hB := hB.trans (hbn.mono hB.size); clear hbn) | (go_at_call 15; with_reducible refine (H2.out _).mono ?_; rintro e wn ⟨rfl, hbn⟩; replace bA := bA.at_ hbn; replace bB := bB.at_ hbn; replace bC := bC.at_ hbn; replace hB := hB.trans (hbn.mono hB.size); clear hbn) | (go_at_call 17; with_reducible refine (H4.out _).mono ?_; rintro e wn ⟨rfl, hbn⟩; replace bA := bA.at_ hbn; replace bB := bB.at_ hbn; replace bC := bC.at_ hbn; replace hB := hB.trans (hbn.mono hB.size); clear hbn) | (go_at_call 12; with_reducible refine (awake_any _).mono ?_; rintro e wn ⟨rfl, hbn⟩; replace bA := bA.at_ hbn; replace bB := bB.at_ hbn; replace bC := bC.at_ hbn; replace hB := hB.trans (hbn.mono hB.size); clear hbn))
      go_ret
      exact ⟨rfl, hB⟩
    · have d2 : decide (0 < B.ord b c) = false := by simpa using o2
      obtain ⟨e1, e2, e3, e4⟩ := B.between o1 o2
      have d3 : decide (B.ord a c ≤ 0) = true := by simpa using e1
      have d4 : decide (B.cmn a c ≤ B.cmn a b) = true := by simpa using e2
      have d5 : decide (B.cmn a c ≤ B.cmn b c) = true := by simpa using e3
      have d6 : (((B.cmn a c : Nat) : Int) == min ((B.cmn a b : Nat) : Int) ((B.cmn b c : Nat) : Int)) = true := by rw [beq_iff_eq]; omega
      clear o1 o2 e1 e2 e3 e4
      generalize B.cmn a c = n1 at *
      generalize B.cmn a b = n2 at *
      generalize B.cmn b c = n3 at *
      generalize B.ord a b = r1 at *
      generalize B.ord b c = r2 at *
      generalize B.ord a c = r3 at *
      go_enter Try.func5, Try.ntmps5
      go_wp2_with (first | (refine wpList_load_blk (by rfl) 23 (.tmp 3) (by rfl) 0 (by rfl) (bA) (labA a) whole_at _ Try.underlying23 (by rfl) hza ?_; simp only [Act.put, List.setIfInBounds_toArray, List.set_cons_succ, List.set_cons_zero]) | (refine wpList_load_blk (by rfl) 23 (.tmp 4) (by rfl) 0 (by rfl) (bB) (labA b) whole_at _ Try.underlying23 (by rfl) hzb ?_; simp only [Act.put, List.setIfInBounds_toArray, List.set_cons_succ, List.set_cons_zero]) | (refine wpList_load_blk (by rfl) 23 (.tmp 5) (by rfl) 0 (by rfl) (bC) (labA c) whole_at _ Try.underlying23 (by rfl) hzc ?_; simp only [Act.put, List.setIfInBounds_toArray, List.set_cons_succ, List.set_cons_zero]) | (go_at_call 15; with_reducible refine (H1.out _).mono ?_; rintro e wn ⟨rfl, hbn⟩; replace bA := bA.at_ hbn; replace bB := bB.at_ hbn; replace bC := bC.at_ hbn; replace hB := hB.trans (hbn.mono hB.size); clear hbn) | (go_at_call 15; with_reducible refine (H2.out _).mono ?_; rintro e wn ⟨rfl, hbn⟩; replace bA := bA.at_ hbn; replace bB := bB.at_ hbn; replace bC := bC.at_ hbn; replace hB := hB.trans (hbn.mono hB.size); clear hbn) | (go_at_call 17; with_reducible refine (H4.out _).mono ?_; rintro e wn ⟨rfl, hbn⟩; replace bA := bA.at_ hbn; replace bB := bB.at_ hbn; replace bC := bC.at_ hbn; replace hB := hB.trans (hbn.mono hB.size); clear hbn) | (go_at_call 12; with_reducible refine (awake_any _).mono ?_; rintro e wn ⟨rfl, hbn⟩; replace bA := bA.at_ hbn; replace bB := bB.at_ hbn; replace bC := bC.at_ hbn; replace hB := hB.trans (hbn.mono hB.size); clear hbn))
      refine wp_region_quiet_below (by kernel_rfl) (by kernel_rfl) ?_
      repeat (first | (go_big_quiet_want; refine quiet_load_row 23 (.tmp 3) (by rfl) (w.heap.size) (by rfl) 23 (labA a) (0, 0) _ (heap_regrown bA) Try.underlying23 (by rfl) hza ?_; simp only [Act.put, List.setIfInBounds_toArray, List.set_cons_succ, List.set_cons_zero]; go_big_quiet_on) | (go_big_quiet_want; refine quiet_load_row 23 (.tmp 4) (by rfl) (w.heap.size + 1) (by rfl) 23 (labA b) (0, 0) _ (heap_regrown bB) Try.underlying23 (by rfl) hzb ?_; simp only [Act.put, List.setIfInBounds_toArray, List.set_cons_succ, List.set_cons_zero]; go_big_quiet_on) | (go_big_quiet_want; refine quiet_load_row 23 (.tmp 5) (by rfl) (w.heap.size + 1 + 1) (by rfl) 23 (labA c) (0, 0) _ (heap_regrown bC) Try.underlying23 (by rfl) hzc ?_; simp only [Act.put, List.setIfInBounds_toArray, List.set_cons_succ, List.set_cons_zero]; go_big_quiet_on) | go_big_quiet_step (first | with_reducible exact calls_regrown _ (fun W _ => awake_any W) | with_reducible exact calls_regrown _ (fun W _ => H3.out W) | with_reducible exact calls_regrown _ (fun W _ => H4.out W) | with_reducible exact calls_regrown _ (fun W _ => H5.out W) | with_reducible exact calls_regrown _ (fun W _ => H6.out W) | fail))
      refine wpQuiet_nil ?_
      intro w1 hw1
      have hb1 := below_of_regrown hw1
      clear hw1
      go_wp2
      go_ret
      exact ⟨rfl, hB.trans (hb1.mono hB.size)⟩

theorem between_law : LawHolds 5 Try.f5 := by
  intro H enc W base args ds p hval hA
  rw [Try.params5] at hA hval
  obtain ⟨v0, vs0, d0, ds0, p0, q0, hargs, rfl, rfl, k0, r0⟩ := trodAll_cons hA
  obtain ⟨v1, vs1, d1, ds1, p1, q1, rfl, rfl, rfl, k1, r1⟩ := trodAll_cons r0
  obtain ⟨v2, vs2, d2, ds2, p2, q2, rfl, rfl, rfl, k2, r2⟩ := trodAll_cons r1
  obtain ⟨rfl, rfl, rfl⟩ := trodAll_nil r2
  obtain rfl : args = #[v0, v1, v2] := by cases args; simp_all
  obtain ⟨a, ha, rfl⟩ := open_lab (hval 0 23 v0 rfl rfl) k0
  obtain ⟨b, hb, rfl⟩ := open_lab (hval 1 23 v1 rfl rfl) k1
  obtain ⟨c, hc, rfl⟩ := open_lab (hval 2 23 v2 rfl rfl) k2
  exact between_walk a b c ha hb hc W

theorem between_lifted (os : Os) (started : os.Started) (H : Type) (enc : TypeId × Value → H) :
    ReturnsInHanded {} Try.checked os 5 .any (Rows.bitsBetweenSpec.pre6 enc Try.prog Try.f5 Rows.bitsBetweenRow.domain false) (Rows.bitsBetweenSpec.post enc Try.prog Try.f5 false true false false) :=
  lifted_of started (by kernel_rfl) Try.func5
    (ChangeSpec.witness6 (enc := enc) (C := Try.checked) false ⟨#[], #[.agg (labA zlab), .agg (labA zlab), .agg (labA zlab)], []⟩ 8 (by kernel_rfl) (by kernel_rfl) (by kernel_rfl) (by kernel_rfl))
    rfl (by kernel_rfl) (fun ds h => by rw [Try.params5] at h; match ds, h with | [_, _, _], _ => rfl) (by rw [Try.params5]; exact of_decide_eq_true (by kernel_rfl)) between_law
theorem between_over : Rows.bitsBetweenRow.holds Try.pinned (OpenSpec.ofChange Rows.bitsBetweenSpec) :=
  OpenClaim.holds_of_wide 5 Try.f5 rfl rfl rfl rfl rfl rfl rfl ⟨rfl, rfl, rfl, rfl, rfl⟩ rfl rfl rfl rfl rfl (by kernel_rfl) Try.func5 (by kernel_rfl)
    (of_decide_eq_true (by kernel_rfl)) (by unfold Func.isWrapper; first | (rw [if_pos (by decide +kernel)]; kernel_rfl) | (rw [if_neg (by decide +kernel)]; exact ⟨rfl, rfl⟩))
    (fun os started H enc _ => between_lifted os started H enc)
/-- The statement. -/
theorem between_proved : Rows.BitsBetweenSaid := between_over
#print axioms between_proved
end Go.Proofs.Ytokjmdlklhkjlaa

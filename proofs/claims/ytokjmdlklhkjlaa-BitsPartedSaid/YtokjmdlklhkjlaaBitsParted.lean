/- BitsParted: two labels part behind what they have in common. No condition. -/
import Derived.Test.YtokjmdlklhkjlaaBitsGrown
namespace Go.Proofs.Ytokjmdlklhkjlaa
open Go.ChangeShapes Go.WideShapes Go.ChangeAt Go.RowKit

theorem cut_common (a b : List UInt8) : B.cut b (B.cmn a b) = B.cut a (B.cmn a b) :=
  ((B.cut_eq_iff a b _ (B.cmn_le a b)).2 fun _ hi => B.cmn_same a b hi).symm
theorem parted (a b : List UInt8) (h : B.cmn a b < 256) : B.cut a (B.cmn a b + 1) ≠ B.cut b (B.cmn a b + 1) := fun e =>
  B.cmn_ne a b h ((B.cut_eq_iff a b _ (by omega)).1 e _ (by omega))
theorem has_nat (n : Nat) (hn : n ≤ 256) (a l : List UInt8) (hl : l.length = 32) (r : Bool) (hr : decide (B.cut a n = B.cut l n) = r) (w : World) : Calls Try.prog 23 #[.agg (prefA n (B.cut a n)), .agg (labA l)] w fun e w' => e = .returned (.bool r) ∧ Below w.heap.size w w' := by
  have h := has_any n (by go_wf) (B.cut a n) l (B.cut_length _ _) hl w
  rw [B.has_cut a l n hn, hr] at h
  exact h
theorem neq_pref (n : Int) (l : List UInt8) (hl : l.length = 32) (hn : (Lit.int .i64 n).wf = true) (w : World) : (binOp .neq 29 (.agg (prefA n l)) (.agg (prefA n l))).run Try.prog w = .ok (.bool false) w := by
  rw [neq29 n n l l hl hl hn hn w]; simp
theorem eql_lab (a b : List UInt8) (ha : a.length = 32) (hb : b.length = 32) (r : Bool) (hr : decide (a = b) = r) (w : World) : (binOp .eql 23 (.agg (labA a)) (.agg (labA b))).run Try.prog w = .ok (.bool r) w := by
  rw [eql23 a b ha hb w, ← hr]
  congr 3
  rw [Bool.eq_iff_iff]; simp

set_option maxHeartbeats 8000000 in
theorem parted_walk (a b : List UInt8) (ha : a.length = 32) (hb : b.length = 32) (w : World) :
    Calls Try.prog 6 #[.agg (labA a), .agg (labA b)] w fun e w' => e = .returned (.bool true) ∧ Below w.heap.size w w' := by
  have hz23 : ∀ l : List UInt8, l.length = 32 → (Try.prog.info? 23).map (·.size) = some (labA l).size := fun l hl => by rw [labA_size, hl]; kernel_rfl
  have hzp : ∀ (k : Int) (q : List UInt8), q.length = 32 → (Try.prog.info? 29).map (·.size) = some (prefA k q).size := fun k q hq => by rw [prefA_size, hq]; kernel_rfl
  have bA : Blk ((w.alloc (.cells (labA a) 23)).alloc (.cells (labA b) 23)) w.heap.size (labA a) 23 := heap_alloc2_old _ _ _
  have bB : Blk ((w.alloc (.cells (labA a) 23)).alloc (.cells (labA b) 23)) (w.heap.size + 1) (labA b) 23 := heap_alloc2_new _ _ _
  have hB := ((Below.refl w.heap.size w).alloc (Nat.le_refl _) (.cells (labA a) 23)).alloc (by simp) (.cells (labA b) 23)
  have hN := B.cmn_le a b
  have H1 := Lib.hid (cmn_any a b ha hb)
  have hca := cut_nat a ha (B.cmn a b) hN
  have hcb := cut_nat b hb (B.cmn a b) hN
  have hha := has_nat (B.cmn a b) hN a a ha true (by simp)
  have hhb := has_nat (B.cmn a b) hN a b hb true (by rw [cut_common]; simp)
  rw [cut_common a b] at hcb
  have hcl := B.cut_length a (B.cmn a b)
  have neh := Lib.hid (neq_pref (B.cmn a b) (B.cut a (B.cmn a b)) hcl (by go_wf))
  have H2 := Lib.hid hca
  have H3 := Lib.hid hcb
  have H4 := Lib.hid hha
  have H5 := Lib.hid hhb
  clear hca hcb hha hhb
  by_cases hab : a = b
  · have hn : B.cmn a b = 256 := (B.cmn_all ha hb).2 hab
    have heq := Lib.hid (eql_lab a b ha hb true (decide_eq_true hab))
    have dn : (((B.cmn a b : Nat) : Int) == 256) = true := by rw [hn]; rfl
    generalize B.cut a (B.cmn a b) = c at H2 H3 H4 H5 neh hcl
    generalize B.cmn a b = n at H1 H2 H3 H4 H5 neh dn
    clear hN hn hab
    go_enter Try.func6, Try.ntmps6
    go_wp2_with (first | (refine wpList_load_blk (by rfl) 23 (.tmp 2) (by rfl) 0 (by rfl) (bA) (labA a) whole_at _ Try.underlying23 (by rfl) (hz23 a ha) ?_; simp only [Act.put, List.setIfInBounds_toArray, List.set_cons_succ, List.set_cons_zero]) | (refine wpList_load_blk (by rfl) 23 (.tmp 3) (by rfl) 0 (by rfl) (bB) (labA b) whole_at _ Try.underlying23 (by rfl) (hz23 b hb) ?_; simp only [Act.put, List.setIfInBounds_toArray, List.set_cons_succ, List.set_cons_zero]) | (go_at_call 17; with_reducible refine (H1.out _).mono ?_; rintro e wn ⟨rfl, hbn⟩; replace bA := bA.at_ hbn; replace bB := bB.at_ hbn; replace hB := hB.trans (hbn.mono hB.size); clear hbn))
    refine wp_region_fresh2' 6 6 (prefA 0 zlab) (prefA 0 zlab) 29 29 _ _ (by kernel_rfl) (by kernel_rfl) (by kernel_rfl) (fun _ _ _ _ e h => ⟨e.trans h.1, h.2⟩) (by rfl) (by rfl) (by rfl) (by rfl) (by rfl) fresh_pref fresh_pref ?_
    apply Exists.intro
    refine ⟨fun F hF hN => ?_, ?_⟩
    · simp only [List.take_succ_cons, List.take_zero]
      repeat (first | (go_big_quiet_want; refine quiet_load_blk 23 (.tmp 2) (by rfl) (0) (by rfl) (heap_regrownF bA) (labA a) (whole_at) _ Try.underlying23 (by rfl) (hz23 a ha) ?_; simp only [Act.put, List.setIfInBounds_toArray, List.set_cons_succ, List.set_cons_zero]; go_big_quiet_on) | (go_big_quiet_want; refine quiet_load_blk 23 (.tmp 3) (by rfl) (0) (by rfl) (heap_regrownF bB) (labA b) (whole_at) _ Try.underlying23 (by rfl) (hz23 b hb) ?_; simp only [Act.put, List.setIfInBounds_toArray, List.set_cons_succ, List.set_cons_zero]; go_big_quiet_on) | go_big_quiet_step (first | with_reducible exact calls_regrownF hF _ (fun W _ => H2.out W) | with_reducible exact calls_regrownF hF _ (fun W _ => H3.out W) | fail))
      exact wpQuiet_nil rfl
    intro g1 g2 W1 hg1 hg2 hne hb1 bN1 bN2
    simp only [List.drop_succ_cons, List.drop_zero, Act.put, List.setIfInBounds_toArray, List.set_cons_succ, List.set_cons_zero]
    have hlA := bA.lt
    have hlB := bB.lt
    replace bA := bA.at_ hb1
    replace bB := bB.at_ hb1
    have hgB1 : w.heap.size ≤ g1 := Nat.le_trans hB.size hg1
    have hgB2 : w.heap.size ≤ g2 := Nat.le_trans hB.size hg2
    replace hB := hB.trans (hb1.mono hB.size)
    clear hb1
    go_wp2_with (first | ((refine wpList_store_blk (by rfl) 29 (.tmp 6) (.tmp 17) (by rfl) (0) (prefA n c) (by rfl) (by rfl) (bN1) (by rw [prefA_size, prefA_size, zlab_length, hcl]; omega) (hzp _ _ hcl) (prefA_all _ _) ?_; simp only [Act.put]); intro w5 bP o5; rw [splice_all _ _ (by rw [prefA_size, prefA_size, zlab_length, hcl])] at bP; replace bA := bA.only o5 (by omega); replace bB := bB.only o5 (by omega); replace bN2 := bN2.only o5 (by omega); replace hB := o5.below hB hgB1; clear o5 bN1) | ((refine wpList_store_blk (by rfl) 29 (.tmp 7) (.tmp 20) (by rfl) (0) (prefA n c) (by rfl) (by rfl) (bN2) (by rw [prefA_size, prefA_size, zlab_length, hcl]; omega) (hzp _ _ hcl) (prefA_all _ _) ?_; simp only [Act.put]); intro w6 bQ o6; rw [splice_all _ _ (by rw [prefA_size, prefA_size, zlab_length, hcl])] at bQ; replace bA := bA.only o6 (by omega); replace bB := bB.only o6 (by omega); replace bP := bP.only o6 (by omega); replace hB := o6.below hB hgB2; clear o6 bN2) | (refine wpList_load_blk (by rfl) 29 (.tmp 6) (by rfl) 0 (by rfl) (bP) (prefA n c) whole_at _ Try.underlying29 (by rfl) (hzp _ _ hcl) ?_; simp only [Act.put, List.setIfInBounds_toArray, List.set_cons_succ, List.set_cons_zero]) | (refine wpList_load_blk (by rfl) 29 (.tmp 7) (by rfl) 0 (by rfl) (bQ) (prefA n c) whole_at _ Try.underlying29 (by rfl) (hzp _ _ hcl) ?_; simp only [Act.put, List.setIfInBounds_toArray, List.set_cons_succ, List.set_cons_zero]) | (refine wpList_load_blk (by rfl) 23 (.tmp 2) (by rfl) 0 (by rfl) (bA) (labA a) whole_at _ Try.underlying23 (by rfl) (hz23 a ha) ?_; simp only [Act.put, List.setIfInBounds_toArray, List.set_cons_succ, List.set_cons_zero]) | (refine wpList_load_blk (by rfl) 23 (.tmp 3) (by rfl) 0 (by rfl) (bB) (labA b) whole_at _ Try.underlying23 (by rfl) (hz23 b hb) ?_; simp only [Act.put, List.setIfInBounds_toArray, List.set_cons_succ, List.set_cons_zero]) | (refine wpList_bin (by rfl) .neq 29 29 (.tmp 21) (.tmp 22) (by rfl) (prefA n c) (prefA n c) (by rfl) (by rfl) guard29 (.bool false) (neh.out) ?_; simp only [Act.put, List.setIfInBounds_toArray, List.set_cons_succ, List.set_cons_zero]) | (go_at_call 23; with_reducible refine (H4.out _).mono ?_; rintro e wn ⟨rfl, hbn⟩; replace bA := bA.at_ hbn; replace bB := bB.at_ hbn; replace bP := bP.at_ hbn; replace bQ := bQ.at_ hbn; replace hB := hB.trans (hbn.mono hB.size); clear hbn) | (go_at_call 23; with_reducible refine (H5.out _).mono ?_; rintro e wn ⟨rfl, hbn⟩; replace bA := bA.at_ hbn; replace bB := bB.at_ hbn; replace bP := bP.at_ hbn; replace bQ := bQ.at_ hbn; replace hB := hB.trans (hbn.mono hB.size); clear hbn) | (refine wpList_bin (by rfl) .eql 23 23 (.tmp 36) (.tmp 37) (by rfl) (labA a) (labA b) (by rfl) (by rfl) guard23 (.bool true) (heq.out) ?_; simp only [Act.put, List.setIfInBounds_toArray, List.set_cons_succ, List.set_cons_zero]) | (go_at_call 12; with_reducible refine (awake_any _).mono ?_; rintro e wn ⟨rfl, hbn⟩; replace bA := bA.at_ hbn; replace bB := bB.at_ hbn; replace bP := bP.at_ hbn; replace bQ := bQ.at_ hbn; replace hB := hB.trans (hbn.mono hB.size); clear hbn))
    go_ret
    exact ⟨rfl, hB⟩
  · have hlt : B.cmn a b < 256 := by
      rcases Nat.lt_or_ge (B.cmn a b) 256 with h | h
      · exact h
      · exact absurd ((B.cmn_all ha hb).1 (by omega)) hab
    have heq := Lib.hid (eql_lab a b ha hb false (decide_eq_false hab))
    have hpart := parted a b hlt
    have HB1 := Lib.hid (bit_nat a ha _ hlt)
    have HB2 := Lib.hid (bit_nat b hb _ hlt)
    have HN1 := Lib.hid (next_nat a _ hlt)
    have hn2 := next_nat b _ hlt
    rw [cut_common a b] at hn2
    have HN2 := Lib.hid hn2
    have H6 := Lib.hid (has_nat (B.cmn a b + 1) (by omega) a a ha true (by simp))
    have H7 := Lib.hid (has_nat (B.cmn a b + 1) (by omega) b b hb true (by simp))
    have H8 := Lib.hid (has_nat (B.cmn a b + 1) (by omega) a b hb false (decide_eq_false hpart))
    have H9 := Lib.hid (has_nat (B.cmn a b + 1) (by omega) b a ha false (decide_eq_false (Ne.symm hpart)))
    have H10 := Lib.hid (ord_any a b ha hb)
    obtain ⟨s, ds1, ds2⟩ : ∃ s, decide (B.ord a b < 0) = s ∧ (((B.bit a (B.cmn a b)).toNat : Int) == 0) = s := by
      refine ⟨!(B.bit a (B.cmn a b)), ?_, ?_⟩
      · unfold B.ord
        rw [if_neg (by omega)]
        cases B.bit a (B.cmn a b) <;> rfl
      · cases B.bit a (B.cmn a b) <;> rfl
    have hla := B.cut_length a (B.cmn a b + 1)
    have hlb := B.cut_length b (B.cmn a b + 1)
    clear hn2 hpart hlt hab hN
    generalize B.cut a (B.cmn a b + 1) = ca at HN1 H6 H8 hla
    generalize B.cut b (B.cmn a b + 1) = cb at HN2 H7 H9 hlb
    generalize ((B.cmn a b + 1 : Nat) : Int) = K1 at HN1 HN2 H6 H7 H8 H9
    generalize ((B.bit a (B.cmn a b)).toNat : Int) = ta at HB1 HN1 ds2
    generalize ((B.bit b (B.cmn a b)).toNat : Int) = tb at HB2 HN2
    generalize B.ord a b = r at H10 ds1
    generalize B.cut a (B.cmn a b) = c at H2 H3 H4 H5 neh hcl HN1 HN2
    generalize B.cmn a b = n at H1 H2 H3 H4 H5 neh HB1 HB2 HN1 HN2
    go_enter Try.func6, Try.ntmps6
    go_wp2_with (first | (refine wpList_load_blk (by rfl) 23 (.tmp 2) (by rfl) 0 (by rfl) (bA) (labA a) whole_at _ Try.underlying23 (by rfl) (hz23 a ha) ?_; simp only [Act.put, List.setIfInBounds_toArray, List.set_cons_succ, List.set_cons_zero]) | (refine wpList_load_blk (by rfl) 23 (.tmp 3) (by rfl) 0 (by rfl) (bB) (labA b) whole_at _ Try.underlying23 (by rfl) (hz23 b hb) ?_; simp only [Act.put, List.setIfInBounds_toArray, List.set_cons_succ, List.set_cons_zero]) | (go_at_call 17; with_reducible refine (H1.out _).mono ?_; rintro e wn ⟨rfl, hbn⟩; replace bA := bA.at_ hbn; replace bB := bB.at_ hbn; replace hB := hB.trans (hbn.mono hB.size); clear hbn))
    refine wp_region_fresh2' 6 6 (prefA 0 zlab) (prefA 0 zlab) 29 29 _ _ (by kernel_rfl) (by kernel_rfl) (by kernel_rfl) (fun _ _ _ _ e h => ⟨e.trans h.1, h.2⟩) (by rfl) (by rfl) (by rfl) (by rfl) (by rfl) fresh_pref fresh_pref ?_
    apply Exists.intro
    refine ⟨fun F hF hN => ?_, ?_⟩
    · simp only [List.take_succ_cons, List.take_zero]
      repeat (first | (go_big_quiet_want; refine quiet_load_blk 23 (.tmp 2) (by rfl) (0) (by rfl) (heap_regrownF bA) (labA a) (whole_at) _ Try.underlying23 (by rfl) (hz23 a ha) ?_; simp only [Act.put, List.setIfInBounds_toArray, List.set_cons_succ, List.set_cons_zero]; go_big_quiet_on) | (go_big_quiet_want; refine quiet_load_blk 23 (.tmp 3) (by rfl) (0) (by rfl) (heap_regrownF bB) (labA b) (whole_at) _ Try.underlying23 (by rfl) (hz23 b hb) ?_; simp only [Act.put, List.setIfInBounds_toArray, List.set_cons_succ, List.set_cons_zero]; go_big_quiet_on) | go_big_quiet_step (first | with_reducible exact calls_regrownF hF _ (fun W _ => H2.out W) | with_reducible exact calls_regrownF hF _ (fun W _ => H3.out W) | fail))
      exact wpQuiet_nil rfl
    intro g1 g2 W1 hg1 hg2 hne hb1 bN1 bN2
    simp only [List.drop_succ_cons, List.drop_zero, Act.put, List.setIfInBounds_toArray, List.set_cons_succ, List.set_cons_zero]
    have hlA := bA.lt
    have hlB := bB.lt
    replace bA := bA.at_ hb1
    replace bB := bB.at_ hb1
    have hgB1 : w.heap.size ≤ g1 := Nat.le_trans hB.size hg1
    have hgB2 : w.heap.size ≤ g2 := Nat.le_trans hB.size hg2
    replace hB := hB.trans (hb1.mono hB.size)
    clear hb1
    go_wp2_with (first | ((refine wpList_store_blk (by rfl) 29 (.tmp 6) (.tmp 17) (by rfl) (0) (prefA n c) (by rfl) (by rfl) (bN1) (by rw [prefA_size, prefA_size, zlab_length, hcl]; omega) (hzp _ _ hcl) (prefA_all _ _) ?_; simp only [Act.put]); intro w5 bP o5; rw [splice_all _ _ (by rw [prefA_size, prefA_size, zlab_length, hcl])] at bP; replace bA := bA.only o5 (by omega); replace bB := bB.only o5 (by omega); replace bN2 := bN2.only o5 (by omega); replace hB := o5.below hB hgB1; clear o5 bN1) | ((refine wpList_store_blk (by rfl) 29 (.tmp 7) (.tmp 20) (by rfl) (0) (prefA n c) (by rfl) (by rfl) (bN2) (by rw [prefA_size, prefA_size, zlab_length, hcl]; omega) (hzp _ _ hcl) (prefA_all _ _) ?_; simp only [Act.put]); intro w6 bQ o6; rw [splice_all _ _ (by rw [prefA_size, prefA_size, zlab_length, hcl])] at bQ; replace bA := bA.only o6 (by omega); replace bB := bB.only o6 (by omega); replace bP := bP.only o6 (by omega); replace hB := o6.below hB hgB2; clear o6 bN2) | (refine wpList_load_blk (by rfl) 29 (.tmp 6) (by rfl) 0 (by rfl) (bP) (prefA n c) whole_at _ Try.underlying29 (by rfl) (hzp _ _ hcl) ?_; simp only [Act.put, List.setIfInBounds_toArray, List.set_cons_succ, List.set_cons_zero]) | (refine wpList_load_blk (by rfl) 29 (.tmp 7) (by rfl) 0 (by rfl) (bQ) (prefA n c) whole_at _ Try.underlying29 (by rfl) (hzp _ _ hcl) ?_; simp only [Act.put, List.setIfInBounds_toArray, List.set_cons_succ, List.set_cons_zero]) | (refine wpList_load_blk (by rfl) 23 (.tmp 2) (by rfl) 0 (by rfl) (bA) (labA a) whole_at _ Try.underlying23 (by rfl) (hz23 a ha) ?_; simp only [Act.put, List.setIfInBounds_toArray, List.set_cons_succ, List.set_cons_zero]) | (refine wpList_load_blk (by rfl) 23 (.tmp 3) (by rfl) 0 (by rfl) (bB) (labA b) whole_at _ Try.underlying23 (by rfl) (hz23 b hb) ?_; simp only [Act.put, List.setIfInBounds_toArray, List.set_cons_succ, List.set_cons_zero]) | (refine wpList_bin (by rfl) .neq 29 29 (.tmp 21) (.tmp 22) (by rfl) (prefA n c) (prefA n c) (by rfl) (by rfl) guard29 (.bool false) (neh.out) ?_; simp only [Act.put, List.setIfInBounds_toArray, List.set_cons_succ, List.set_cons_zero]) | (go_at_call 23; with_reducible refine (H4.out _).mono ?_; rintro e wn ⟨rfl, hbn⟩; replace bA := bA.at_ hbn; replace bB := bB.at_ hbn; replace bP := bP.at_ hbn; replace bQ := bQ.at_ hbn; replace hB := hB.trans (hbn.mono hB.size); clear hbn) | (go_at_call 23; with_reducible refine (H5.out _).mono ?_; rintro e wn ⟨rfl, hbn⟩; replace bA := bA.at_ hbn; replace bB := bB.at_ hbn; replace bP := bP.at_ hbn; replace bQ := bQ.at_ hbn; replace hB := hB.trans (hbn.mono hB.size); clear hbn) | (refine wpList_bin (by rfl) .eql 23 23 (.tmp 36) (.tmp 37) (by rfl) (labA a) (labA b) (by rfl) (by rfl) guard23 (.bool false) (heq.out) ?_; simp only [Act.put, List.setIfInBounds_toArray, List.set_cons_succ, List.set_cons_zero]) | (go_at_call 12; with_reducible refine (awake_any _).mono ?_; rintro e wn ⟨rfl, hbn⟩; replace bA := bA.at_ hbn; replace bB := bB.at_ hbn; replace bP := bP.at_ hbn; replace bQ := bQ.at_ hbn; replace hB := hB.trans (hbn.mono hB.size); clear hbn))
    refine wp_region_fresh1' 6 8 (prefA 0 zlab) 29 _ (by kernel_rfl) (by kernel_rfl) (by kernel_rfl) (fun _ _ _ _ e h => ⟨e.trans h.1, h.2⟩) (by rfl) (by rfl) (by rfl) fresh_pref ?_
    apply Exists.intro
    refine ⟨fun F hF hN => ?_, ?_⟩
    · simp only [List.take_succ_cons, List.take_zero]
      repeat (first | (go_big_quiet_want; refine quiet_load_blk 29 (.tmp 6) (by rfl) (0) (by rfl) (heap_regrownF bP) (prefA n c) (whole_at) _ Try.underlying29 (by rfl) (hzp n _ hcl) ?_; simp only [Act.put, List.setIfInBounds_toArray, List.set_cons_succ, List.set_cons_zero]; go_big_quiet_on) | (go_big_quiet_want; refine quiet_load_blk 23 (.tmp 2) (by rfl) (0) (by rfl) (heap_regrownF bA) (labA a) (whole_at) _ Try.underlying23 (by rfl) (hz23 a ha) ?_; simp only [Act.put, List.setIfInBounds_toArray, List.set_cons_succ, List.set_cons_zero]; go_big_quiet_on) | go_big_quiet_step (first | with_reducible exact calls_regrownF hF _ (fun W _ => HB1.out W) | with_reducible exact calls_regrownF hF _ (fun W _ => HN1.out W) | fail))
      exact wpQuiet_nil rfl
    intro g3 W3 hg3 hb3 bN3
    simp only [List.drop_succ_cons, List.drop_zero, Act.put, List.setIfInBounds_toArray, List.set_cons_succ, List.set_cons_zero]
    have hlP := bP.lt
    have hlQ := bQ.lt
    have hlA3 := bA.lt
    have hlB3 := bB.lt
    have hgB3 : w.heap.size ≤ g3 := Nat.le_trans hB.size hg3
    replace bA := bA.at_ hb3
    replace bB := bB.at_ hb3
    replace bP := bP.at_ hb3
    replace bQ := bQ.at_ hb3
    replace hB := hB.trans (hb3.mono hB.size)
    clear hb3
    go_wp2_with ((refine wpList_store_blk (by rfl) 29 (.tmp 8) (.tmp 50) (by rfl) (0) (prefA K1 ca) (by rfl) (by rfl) (bN3) (by rw [prefA_size, prefA_size, zlab_length, hla]; omega) (hzp _ _ hla) (prefA_all _ _) ?_; simp only [Act.put]); intro w7 bX o7; rw [splice_all _ _ (by rw [prefA_size, prefA_size, zlab_length, hla])] at bX; replace bA := bA.only o7 (by omega); replace bB := bB.only o7 (by omega); replace bP := bP.only o7 (by omega); replace bQ := bQ.only o7 (by omega); replace hB := o7.below hB hgB3; clear o7 bN3)
    refine wp_region_fresh1' 6 8 (prefA 0 zlab) 29 _ (by kernel_rfl) (by kernel_rfl) (by kernel_rfl) (fun _ _ _ _ e h => ⟨e.trans h.1, h.2⟩) (by rfl) (by rfl) (by rfl) fresh_pref ?_
    apply Exists.intro
    refine ⟨fun F hF hN => ?_, ?_⟩
    · simp only [List.take_succ_cons, List.take_zero]
      repeat (first | (go_big_quiet_want; refine quiet_load_blk 29 (.tmp 6) (by rfl) (0) (by rfl) (heap_regrownF bP) (prefA n c) (whole_at) _ Try.underlying29 (by rfl) (hzp n _ hcl) ?_; simp only [Act.put, List.setIfInBounds_toArray, List.set_cons_succ, List.set_cons_zero]; go_big_quiet_on) | (go_big_quiet_want; refine quiet_load_blk 23 (.tmp 3) (by rfl) (0) (by rfl) (heap_regrownF bB) (labA b) (whole_at) _ Try.underlying23 (by rfl) (hz23 b hb) ?_; simp only [Act.put, List.setIfInBounds_toArray, List.set_cons_succ, List.set_cons_zero]; go_big_quiet_on) | go_big_quiet_step (first | with_reducible exact calls_regrownF hF _ (fun W _ => HB2.out W) | with_reducible exact calls_regrownF hF _ (fun W _ => HN2.out W) | fail))
      exact wpQuiet_nil rfl
    intro g4 W4 hg4 hb4 bN4
    simp only [List.drop_succ_cons, List.drop_zero, Act.put, List.setIfInBounds_toArray, List.set_cons_succ, List.set_cons_zero]
    have hlX := bX.lt
    have hlA4 := bA.lt
    have hlB4 := bB.lt
    have hgB4 : w.heap.size ≤ g4 := Nat.le_trans hB.size hg4
    replace bA := bA.at_ hb4
    replace bB := bB.at_ hb4
    replace bX := bX.at_ hb4
    replace hB := hB.trans (hb4.mono hB.size)
    clear hb4 bP bQ
    go_wp2_with ((refine wpList_store_blk (by rfl) 29 (.tmp 10) (.tmp 58) (by rfl) (0) (prefA K1 cb) (by rfl) (by rfl) (bN4) (by rw [prefA_size, prefA_size, zlab_length, hlb]; omega) (hzp _ _ hlb) (prefA_all _ _) ?_; simp only [Act.put]); intro w8 bY o8; rw [splice_all _ _ (by rw [prefA_size, prefA_size, zlab_length, hlb])] at bY; replace bA := bA.only o8 (by omega); replace bB := bB.only o8 (by omega); replace bX := bX.only o8 (by omega); replace hB := o8.below hB hgB4; clear o8 bN4)
    refine wp_region_quiet_below (by kernel_rfl) (by kernel_rfl) ?_
    repeat (first | (go_big_quiet_want; refine quiet_load_blk 23 (.tmp 2) (by rfl) (0) (by rfl) (heap_regrown bA) (labA a) (whole_at) _ Try.underlying23 (by rfl) (hz23 a ha) ?_; simp only [Act.put, List.setIfInBounds_toArray, List.set_cons_succ, List.set_cons_zero]; go_big_quiet_on) | (go_big_quiet_want; refine quiet_load_blk 23 (.tmp 3) (by rfl) (0) (by rfl) (heap_regrown bB) (labA b) (whole_at) _ Try.underlying23 (by rfl) (hz23 b hb) ?_; simp only [Act.put, List.setIfInBounds_toArray, List.set_cons_succ, List.set_cons_zero]; go_big_quiet_on) | (go_big_quiet_want; refine quiet_load_blk 29 (.tmp 8) (by rfl) (0) (by rfl) (heap_regrown bX) (prefA K1 ca) (whole_at) _ Try.underlying29 (by rfl) (hzp _ _ hla) ?_; simp only [Act.put, List.setIfInBounds_toArray, List.set_cons_succ, List.set_cons_zero]; go_big_quiet_on) | (go_big_quiet_want; refine quiet_load_blk 29 (.tmp 10) (by rfl) (0) (by rfl) (heap_regrown bY) (prefA K1 cb) (whole_at) _ Try.underlying29 (by rfl) (hzp _ _ hlb) ?_; simp only [Act.put, List.setIfInBounds_toArray, List.set_cons_succ, List.set_cons_zero]; go_big_quiet_on) | go_big_quiet_step (first | with_reducible exact calls_regrown _ (fun W _ => awake_any W) | with_reducible exact calls_regrown _ (fun W _ => H6.out W) | with_reducible exact calls_regrown _ (fun W _ => H7.out W) | with_reducible exact calls_regrown _ (fun W _ => H8.out W) | with_reducible exact calls_regrown _ (fun W _ => H9.out W) | with_reducible exact calls_regrown _ (fun W _ => H10.out W) | with_reducible exact calls_regrown _ (fun W _ => HB1.out W) | fail))
    refine wpQuiet_nil ?_
    intro w1 hw1
    have hb1 := below_of_regrown hw1
    clear hw1
    go_wp2
    go_ret
    exact ⟨rfl, hB.trans (hb1.mono hB.size)⟩

theorem parted_law : LawHolds 6 Try.f6 := by
  intro H enc W base args ds p hval hA
  rw [Try.params6] at hA hval
  obtain ⟨v0, vs0, d0, ds0, p0, q0, hargs, rfl, rfl, k0, r0⟩ := trodAll_cons hA
  obtain ⟨v1, vs1, d1, ds1, p1, q1, rfl, rfl, rfl, k1, r1⟩ := trodAll_cons r0
  obtain ⟨rfl, rfl, rfl⟩ := trodAll_nil r1
  obtain rfl : args = #[v0, v1] := by cases args; simp_all
  obtain ⟨a, ha, rfl⟩ := open_lab (hval 0 23 v0 rfl rfl) k0
  obtain ⟨b, hb, rfl⟩ := open_lab (hval 1 23 v1 rfl rfl) k1
  exact parted_walk a b ha hb W

theorem parted_lifted (os : Os) (started : os.Started) (H : Type) (enc : TypeId × Value → H) :
    ReturnsInHanded {} Try.checked os 6 .any (Rows.bitsPartedSpec.pre6 enc Try.prog Try.f6 Rows.bitsPartedRow.domain false) (Rows.bitsPartedSpec.post enc Try.prog Try.f6 false true false false) :=
  lifted_of started (by kernel_rfl) Try.func6
    (ChangeSpec.witness6 (enc := enc) (C := Try.checked) false ⟨#[], #[.agg (labA zlab), .agg (labA zlab)], []⟩ 8 (by kernel_rfl) (by kernel_rfl) (by kernel_rfl) (by kernel_rfl))
    rfl (by kernel_rfl) (fun ds h => by rw [Try.params6] at h; match ds, h with | [_, _], _ => rfl) (by rw [Try.params6]; exact of_decide_eq_true (by kernel_rfl)) parted_law
theorem parted_over : Rows.bitsPartedRow.holds Try.pinned (OpenSpec.ofChange Rows.bitsPartedSpec) :=
  OpenClaim.holds_of_wide 6 Try.f6 rfl rfl rfl rfl rfl rfl rfl ⟨rfl, rfl, rfl, rfl, rfl⟩ rfl rfl rfl rfl rfl (by kernel_rfl) Try.func6 (by kernel_rfl)
    (of_decide_eq_true (by kernel_rfl)) (by unfold Func.isWrapper; first | (rw [if_pos (by decide +kernel)]; kernel_rfl) | (rw [if_neg (by decide +kernel)]; exact ⟨rfl, rfl⟩))
    (fun os started H enc _ => parted_lifted os started H enc)
/-- The statement. -/
theorem parted_proved : Rows.BitsPartedSaid := parted_over
#print axioms parted_proved
end Go.Proofs.Ytokjmdlklhkjlaa

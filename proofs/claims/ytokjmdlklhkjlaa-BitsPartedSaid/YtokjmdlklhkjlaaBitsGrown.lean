/- BitsGrown: a label is put together of its bits. No condition. -/
import Derived.Test.YtokjmdlklhkjlaaWAwake1
import Derived.Test.YtokjmdlklhkjlaaOpenB
import Derived.Test.YtokjmdlklhkjlaaFresh2
namespace Go.Proofs.Ytokjmdlklhkjlaa
open Go.ChangeShapes Go.WideShapes Go.ChangeAt Go.RowKit

theorem over_next (l : List UInt8) (k : Nat) (hk : k < 256) : B.over k (B.cut l k) ((k + 1 : Nat) : Int) (B.cut l (k + 1)) = true := by
  unfold B.over
  rw [B.good_cut l (k + 1) (by omega), B.has_cut _ _ _ (by omega), B.cut_cut l (k + 1) k (by omega) (by omega), Nat.min_eq_right (by omega), decide_eq_true (show (k : Int) ≤ ((k + 1 : Nat) : Int) by omega)]
  simp
theorem over_back (l : List UInt8) (k : Nat) : B.over ((k + 1 : Nat) : Int) (B.cut l (k + 1)) k (B.cut l k) = false := by
  unfold B.over
  rw [decide_eq_false (show ¬ ((k + 1 : Nat) : Int) ≤ (k : Int) by omega), Bool.and_false, Bool.false_and]
theorem eq_pref (n : Int) (l : List UInt8) (hl : l.length = 32) (hn : (Lit.int .i64 n).wf = true) (w : World) : (binOp .eql 29 (.agg (prefA n l)) (.agg (prefA n l))).run Try.prog w = .ok (.bool true) w := by
  rw [eql29 n n l l hl hl hn hn w]; simp
theorem bit_nat (l : List UInt8) (hl : l.length = 32) (k : Nat) (hk : k < 256) (w : World) : Calls Try.prog 13 #[.agg (labA l), .int .i64 (k : Int)] w fun e w' => e = .returned (.int .i64 ((B.bit l k).toNat : Int)) ∧ Below w.heap.size w w' :=
  bit_in l hl k (by omega) (by omega) w
theorem next_nat (l : List UInt8) (k : Nat) (hk : k < 256) (w : World) : Calls Try.prog 19 #[.agg (prefA k (B.cut l k)), .int .i64 ((B.bit l k).toNat : Int)] w fun e w' => e = .returned (.tuple #[.agg (prefA ((k + 1 : Nat) : Int) (B.cut l (k + 1))), .int .i64 0]) ∧ Below w.heap.size w w' := by
  have h := next_yes k (B.cut l k) (B.cut_length _ _) (B.bit l k).toNat (by cases B.bit l k <;> decide) hk (B.good_cut l k (by omega)) w
  rw [B.next_cut l k hk] at h
  exact h
theorem cut_nat (l : List UInt8) (hl : l.length = 32) (k : Nat) (hk : k ≤ 256) (w : World) : Calls Try.prog 22 #[.agg (labA l), .int .i64 (k : Int)] w fun e w' => e = .returned (.agg (prefA k (B.cut l k))) ∧ Below w.heap.size w w' := by
  have h := cut_any l hl k w
  rw [show min (k : Int).toNat 256 = k by omega] at h
  exact h

set_option maxHeartbeats 4000000 in
theorem grown_walk (l : List UInt8) (hl : l.length = 32) (n : Int) (w : World) :
    Calls Try.prog 8 #[.agg (labA l), .int .i64 n] w fun e w' => e = .returned (.bool true) ∧ Below w.heap.size w w' := by
  have hz23 : (Try.prog.info? 23).map (·.size) = some (labA l).size := by rw [labA_size, hl]; kernel_rfl
  have hzp : ∀ (k : Int) (q : List UInt8), q.length = 32 → (Try.prog.info? 29).map (·.size) = some (prefA k q).size := fun k q hq => by rw [prefA_size, hq]; kernel_rfl
  have hz0 := hzp 0 _ zlab_length
  have bL := Blk.new w (labA l) 23
  have hB := (Below.refl w.heap.size w).alloc (Nat.le_refl _) (.cells (labA l) 23)
  by_cases h0 : n < 0
  · have d1 : decide (n < 0) = true := by simpa using h0
    clear h0
    go_enter Try.func8, Try.ntmps8
    go_wp2_with (go_at_call 12; with_reducible refine (awake_any _).mono ?_; rintro e wn ⟨rfl, hbn⟩; replace hB := hB.trans (hbn.mono hB.size); clear hbn)
    go_ret
    exact ⟨rfl, hB⟩
  · have d1 : decide (n < 0) = false := by simpa using h0
    by_cases h1 : 256 < n
    · have d2 : decide (256 < n) = true := by simpa using h1
      clear h0 h1
      go_enter Try.func8, Try.ntmps8
      go_wp2_with (go_at_call 12; with_reducible refine (awake_any _).mono ?_; rintro e wn ⟨rfl, hbn⟩; replace hB := hB.trans (hbn.mono hB.size); clear hbn)
      go_ret
      exact ⟨rfl, hB⟩
    · have d2 : decide (256 < n) = false := by simpa using h1
      obtain ⟨N, rfl⟩ : ∃ N : Nat, n = N := ⟨n.toNat, by omega⟩
      have hN : N ≤ 256 := by omega
      clear h0 h1
      have hc0 : B.cut l 0 = zlab := B.cut_zero l
      have b0 : Blk ((w.alloc (.cells (labA l) 23)).alloc (.cells (prefA 0 zlab) 29)) (w.heap.size + 1) (prefA 0 zlab) 29 := heap_alloc2_new _ _ _
      go_enter Try.func8, Try.ntmps8
      go_wp2_with (first | (refine wpList_zero (by rfl) 29 (by rfl) _ build_pref ?_; simp only [Act.put, List.setIfInBounds_toArray, List.set_cons_succ, List.set_cons_zero]) | (refine wpList_fresh (by rfl) 29 (by rfl) _ fresh_pref ?_; simp only [Act.put, List.setIfInBounds_toArray, List.set_cons_succ, List.set_cons_zero]; try simp only [World.size_alloc]) | ((refine wpList_store_blk (by rfl) 29 (.tmp 5) (.tmp 16) (by rfl) (0) (prefA 0 zlab) (by rfl) (by rfl) (b0) (by rw [prefA_size]; omega) hz0 (prefA_all _ _) ?_; simp only [Act.put]); intro w1 bP o1; rw [splice_all _ _ rfl] at bP; replace bL := (bL.alloc _).only o1 (by omega); replace hB := o1.below (hB.alloc hB.size _) (by omega); clear o1 b0))
      go_loopw [6] (fun v wr => ∃ k : Nat, k ≤ N ∧ v = .int .i64 (k : Int) ∧ Blk wr w.heap.size (labA l) 23 ∧ Blk wr (w.heap.size + 1) (prefA k (B.cut l k)) 29 ∧ Below w.heap.size w wr) (fun v _ => N - (intOf v).toNat)
      case atStart => exact ⟨0, by omega, by simp, bL, by rw [hc0]; exact bP, hB⟩
      case round =>
        clear bL bP hB
        obtain ⟨k, hk, rfl, bL, bP, hB⟩ := hrel
        have hck := B.cut_length l k
        by_cases hlt : k < N
        · have dl : decide ((k : Int) < (N : Int)) = true := by simpa using hlt
          have HB := Lib.hid (bit_nat l hl k (by omega))
          have HN := Lib.hid (next_nat l k (by omega))
          have ho := over_any k ((k + 1 : Nat) : Int) (by go_wf) (by go_wf) (B.cut l k) (B.cut l (k + 1)) (B.cut_length _ _) (B.cut_length _ _)
          have ho' := over_any ((k + 1 : Nat) : Int) k (by go_wf) (by go_wf) (B.cut l (k + 1)) (B.cut l k) (B.cut_length _ _) (B.cut_length _ _)
          rw [over_next l k (by omega)] at ho
          rw [over_back] at ho'
          have HO := Lib.hid ho
          have HO' := Lib.hid ho'
          have hc1 := B.cut_length l (k + 1)
          have hk1 := Lib.hid (show ((k + 1 : Nat) : Int) = (k : Int) + 1 by omega)
          clear ho ho'
          generalize hq : B.cut l (k + 1) = q at HN HO HO' hc1
          generalize ((k + 1 : Nat) : Int) = K1 at HN HO HO' hk1
          generalize ((B.bit l k).toNat : Int) = bt at HB HN
          go_wp2
          refine wp_region_fresh1' 6 8 (prefA 0 zlab) 29 _ (by kernel_rfl) (by kernel_rfl) (by kernel_rfl) (fun _ _ _ _ e h => ⟨e.trans h.1, h.2⟩) (by rfl) (by rfl) (by rfl) fresh_pref ?_
          apply Exists.intro
          refine ⟨fun F hF hN => ?_, ?_⟩
          · simp only [List.take_succ_cons, List.take_zero]
            repeat (first | (go_big_quiet_want; refine quiet_load_blk 29 (.tmp 5) (by rfl) (0) (by rfl) (heap_regrownF bP) (prefA k (B.cut l k)) (whole_at) _ Try.underlying29 (by rfl) (hzp k _ hck) ?_; simp only [Act.put, List.setIfInBounds_toArray, List.set_cons_succ, List.set_cons_zero]; go_big_quiet_on) | (go_big_quiet_want; refine quiet_load_blk 23 (.tmp 2) (by rfl) (0) (by rfl) (heap_regrownF bL) (labA l) (whole_at) _ Try.underlying23 (by rfl) hz23 ?_; simp only [Act.put, List.setIfInBounds_toArray, List.set_cons_succ, List.set_cons_zero]; go_big_quiet_on) | go_big_quiet_step (first | with_reducible exact calls_regrownF hF _ (fun W _ => HB.out W) | with_reducible exact calls_regrownF hF _ (fun W _ => HN.out W) | fail))
            exact wpQuiet_nil rfl
          intro g1 W1 hg1 hb1 bN1
          simp only [List.drop_succ_cons, List.drop_zero, Act.put, List.setIfInBounds_toArray, List.set_cons_succ, List.set_cons_zero]
          have hlP := bP.lt
          have hlL := bL.lt
          replace bP := bP.at_ hb1
          replace bL := bL.at_ hb1
          have hgB : w.heap.size ≤ g1 := Nat.le_trans hB.size hg1
          replace hB := hB.trans (hb1.mono hB.size)
          clear hb1
          go_wp2_with (first | ((refine wpList_store_blk (by rfl) 29 (.tmp 7) (.tmp 28) (by rfl) (0) (prefA K1 q) (by rfl) (by rfl) (bN1) (by rw [prefA_size, prefA_size, zlab_length, hc1]; omega) (hzp _ _ hc1) (prefA_all _ _) ?_; simp only [Act.put]); intro w5 bQ o5; rw [splice_all _ _ (by rw [prefA_size, prefA_size, zlab_length, hc1])] at bQ; replace bL := bL.only o5 (by omega); replace bP := bP.only o5 (by omega); replace hB := o5.below hB hgB; clear o5 bN1) | (refine wpList_load_blk (by rfl) 29 (.tmp 5) (by rfl) 0 (by rfl) (bP) (prefA k (B.cut l k)) whole_at _ Try.underlying29 (by rfl) (hzp _ _ hck) ?_; simp only [Act.put, List.setIfInBounds_toArray, List.set_cons_succ, List.set_cons_zero]) | (refine wpList_load_blk (by rfl) 29 (.tmp 7) (by rfl) 0 (by rfl) (bQ) (prefA K1 q) whole_at _ Try.underlying29 (by rfl) (hzp _ _ hc1) ?_; simp only [Act.put, List.setIfInBounds_toArray, List.set_cons_succ, List.set_cons_zero]) | (go_at_call 26; with_reducible refine (HO.out _).mono ?_; rintro e wn ⟨rfl, hbn⟩; replace bL := bL.at_ hbn; replace bP := bP.at_ hbn; replace bQ := bQ.at_ hbn; replace hB := hB.trans (hbn.mono hB.size); clear hbn) | (go_at_call 26; with_reducible refine (HO'.out _).mono ?_; rintro e wn ⟨rfl, hbn⟩; replace bL := bL.at_ hbn; replace bP := bP.at_ hbn; replace bQ := bQ.at_ hbn; replace hB := hB.trans (hbn.mono hB.size); clear hbn) | ((refine wpList_store_blk (by rfl) 29 (.tmp 5) (.tmp 43) (by rfl) (0) (prefA K1 q) (by rfl) (by rfl) (bP) (by rw [prefA_size, prefA_size, hck, hc1]; omega) (hzp _ _ hc1) (prefA_all _ _) ?_; simp only [Act.put]); intro w6 bR o6; rw [splice_all _ _ (by rw [prefA_size, prefA_size, hck, hc1])] at bR; replace bL := bL.only o6 (by omega); replace hB := o6.below hB (by omega)))
          go_roundw
          case rel => exact ⟨k + 1, by omega, by go_num, bL, by rw [hq, show ((k + 1 : Nat) : Int) = K1 by have := hk1.out; omega]; exact bR, hB⟩
          case measure => simp [intOf]; omega
        · have hkN : k = N := by omega
          subst hkN
          have dl : decide ((k : Int) < (k : Int)) = false := by simp
          have HC := Lib.hid (cut_nat l hl k hN)
          have hh := has_any k (by go_wf) (B.cut l k) l hck hl
          rw [B.has_cut_self l k hN] at hh
          have HH := Lib.hid hh
          have heq := Lib.hid (eq_pref k (B.cut l k) hck (by go_wf))
          clear hh
          go_wp2
          refine wp_region_quiet_below (by kernel_rfl) (by kernel_rfl) ?_
          repeat (first | (go_big_quiet_want; refine quiet_load_blk 29 (.tmp 5) (by rfl) (0) (by rfl) (heap_regrown bP) (prefA k (B.cut l k)) (whole_at) _ Try.underlying29 (by rfl) (hzp k _ hck) ?_; simp only [Act.put, List.setIfInBounds_toArray, List.set_cons_succ, List.set_cons_zero]; go_big_quiet_on) | (go_big_quiet_want; refine quiet_load_blk 23 (.tmp 2) (by rfl) (0) (by rfl) (heap_regrown bL) (labA l) (whole_at) _ Try.underlying23 (by rfl) hz23 ?_; simp only [Act.put, List.setIfInBounds_toArray, List.set_cons_succ, List.set_cons_zero]; go_big_quiet_on) | (go_big_quiet_want; refine quiet_bin .eql 29 29 (.tmp 46) (.tmp 49) (by rfl) (prefA k (B.cut l k)) (prefA k (B.cut l k)) (by rfl) (by rfl) guard29 (.bool true) (heq.out) ?_; simp only [Act.put, List.setIfInBounds_toArray, List.set_cons_succ, List.set_cons_zero]; go_big_quiet_on) | go_big_quiet_step (first | with_reducible exact calls_regrown _ (fun W _ => awake_any W) | with_reducible exact calls_regrown _ (fun W _ => HC.out W) | with_reducible exact calls_regrown _ (fun W _ => HH.out W) | fail))
          refine wpQuiet_nil ?_
          intro w1 hw1
          have hb1 := below_of_regrown hw1
          clear hw1
          go_wp2
          go_ret
          exact ⟨rfl, hB.trans (hb1.mono hB.size)⟩

theorem grown_law : LawHolds 8 Try.f8 := by
  intro H enc W base args ds p hval hA
  rw [Try.params8] at hA hval
  obtain ⟨v0, vs0, d0, ds0, p0, q0, hargs, rfl, rfl, k0, r0⟩ := trodAll_cons hA
  obtain ⟨v1, vs1, d1, ds1, p1, q1, rfl, rfl, rfl, k1, r1⟩ := trodAll_cons r0
  obtain ⟨rfl, rfl, rfl⟩ := trodAll_nil r1
  obtain rfl : args = #[v0, v1] := by cases args; simp_all
  obtain ⟨a, ha, rfl⟩ := open_lab (hval 0 23 v0 rfl rfl) k0
  obtain ⟨i, rfl, _, _, _⟩ := open_int Try.underlying3 (hval 1 3 v1 rfl rfl) k1
  exact grown_walk a ha i W

theorem grown_lifted (os : Os) (started : os.Started) (H : Type) (enc : TypeId × Value → H) :
    ReturnsInHanded {} Try.checked os 8 .any (Rows.bitsGrownSpec.pre6 enc Try.prog Try.f8 Rows.bitsGrownRow.domain false) (Rows.bitsGrownSpec.post enc Try.prog Try.f8 false true false false) :=
  lifted_of started (by kernel_rfl) Try.func8
    (ChangeSpec.witness6 (enc := enc) (C := Try.checked) false ⟨#[], #[.agg (labA zlab), .int .i64 0], []⟩ 8 (by kernel_rfl) (by kernel_rfl) (by kernel_rfl) (by kernel_rfl))
    rfl (by kernel_rfl) (fun ds h => by rw [Try.params8] at h; match ds, h with | [_, _], _ => rfl) (by rw [Try.params8]; exact of_decide_eq_true (by kernel_rfl)) grown_law
theorem grown_over : Rows.bitsGrownRow.holds Try.pinned (OpenSpec.ofChange Rows.bitsGrownSpec) :=
  OpenClaim.holds_of_wide 8 Try.f8 rfl rfl rfl rfl rfl rfl rfl ⟨rfl, rfl, rfl, rfl, rfl⟩ rfl rfl rfl rfl rfl (by kernel_rfl) Try.func8 (by kernel_rfl)
    (of_decide_eq_true (by kernel_rfl)) (by unfold Func.isWrapper; first | (rw [if_pos (by decide +kernel)]; kernel_rfl) | (rw [if_neg (by decide +kernel)]; exact ⟨rfl, rfl⟩))
    (fun os started H enc _ => grown_lifted os started H enc)
/-- The statement. -/
theorem grown_proved : Rows.BitsGrownSaid := grown_over
#print axioms grown_proved
end Go.Proofs.Ytokjmdlklhkjlaa

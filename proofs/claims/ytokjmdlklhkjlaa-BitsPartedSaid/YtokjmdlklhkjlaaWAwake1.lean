/- The walk of 'awake' of layer 1: the answers that the document fixes. -/
import Derived.Test.YtokjmdlklhkjlaaWNext
namespace Go.Proofs.Ytokjmdlklhkjlaa
open Go.RowKit

/-- A label whose first byte is this, the others noughts. -/
def lab1 (x : UInt8) : List UInt8 := x :: List.replicate 31 0
theorem lab1_length (x : UInt8) : (lab1 x).length = 32 := by rfl
theorem build_192 (w : World) : (Instr.build 23 #[(0, .int .u8 192)]).run Try.prog w = .ok (.agg (labA (lab1 192))) w := by kernel_rfl
theorem build_224 (w : World) : (Instr.build 23 #[(0, .int .u8 224)]).run Try.prog w = .ok (.agg (labA (lab1 224))) w := by kernel_rfl
theorem aw_cut (w : World) : Calls Try.prog 22 #[.agg (labA (lab1 224)), .int .i64 2] w fun e w' => e = .returned (.agg (prefA 2 (lab1 192))) ∧ Below w.heap.size w w' := by
  have h := cut_any (lab1 224) (lab1_length _) 2 w
  rw [show min (2 : Int).toNat 256 = 2 from rfl, show B.cut (lab1 224) 2 = lab1 192 from by decide +kernel] at h
  exact h
theorem aw_next (w : World) : Calls Try.prog 19 #[.agg (prefA 2 (lab1 192)), .int .i64 1] w fun e w' => e = .returned (.tuple #[.agg (prefA 3 (lab1 224)), .int .i64 0]) ∧ Below w.heap.size w w' := by
  have h := next_yes 2 (lab1 192) (lab1_length _) 1 (by omega) (by omega) (by decide +kernel) w
  rw [show B.nextB 2 (lab1 192) ((1 : Nat) : Int) = lab1 224 from by decide +kernel] at h
  exact h
theorem aw_bit (w : World) : Calls Try.prog 13 #[.agg (labA (lab1 192)), .int .i64 1] w fun e w' => e = .returned (.int .i64 1) ∧ Below w.heap.size w w' := by
  have h := bit_in (lab1 192) (lab1_length _) 1 (by omega) (by omega) w
  rw [show (B.bit (lab1 192) (1 : Int).toNat).toNat = 1 from by decide +kernel] at h
  exact h
theorem aw_cmn (w : World) : Calls Try.prog 17 #[.agg (labA (lab1 192)), .agg (labA (lab1 224))] w fun e w' => e = .returned (.int .i64 2) ∧ Below w.heap.size w w' := by
  have h := cmn_any (lab1 192) (lab1 224) (lab1_length _) (lab1_length _) w
  rw [show B.cmn (lab1 192) (lab1 224) = 2 from by decide +kernel] at h
  exact h
theorem aw_ord (w : World) : Calls Try.prog 15 #[.agg (labA (lab1 192)), .agg (labA (lab1 224))] w fun e w' => e = .returned (.int .i64 (-1)) ∧ Below w.heap.size w w' := by
  have h := ord_any (lab1 192) (lab1 224) (lab1_length _) (lab1_length _) w
  rw [show B.ord (lab1 192) (lab1 224) = -1 from by decide +kernel] at h
  exact h
theorem build_want (w : World) : (Instr.build 29 #[(0, .int .i64 3), (1, .agg (labA (lab1 224)))]).run Try.prog w = .ok (.agg (prefA 3 (lab1 224))) w := build_pref2 3 _ (lab1_length _) w

theorem aw_eq (w : World) : (binOp .eql 29 (.agg (prefA 3 (lab1 224))) (.agg (prefA 3 (lab1 224)))).run Try.prog w = .ok (.bool true) w := by
  rw [eql29 3 3 _ _ (lab1_length _) (lab1_length _) (by decide) (by decide) w]; simp

set_option maxHeartbeats 2000000 in
/-- awake. -/
theorem awake_any (w : World) : Calls Try.prog 12 #[] w fun e w' => e = .returned (.bool true) ∧ Below w.heap.size w w' := by
  have hz : ∀ x, (Try.prog.info? 23).map (·.size) = some (labA (lab1 x)).size := fun x => by rw [labA_size, lab1_length]; kernel_rfl
  have hz29 : ∀ n x, (Try.prog.info? 29).map (·.size) = some (prefA n (lab1 x)).size := fun n x => by rw [prefA_size, lab1_length]; kernel_rfl
  have Hc := Lib.hid aw_cut
  have Hn := Lib.hid aw_next
  have Hb := Lib.hid aw_bit
  have Hm := Lib.hid aw_cmn
  have Ho := Lib.hid aw_ord
  have b00 : Blk ((w.alloc (.cells (labA zlab) 23)).alloc (.cells (labA zlab) 23)) w.heap.size (labA zlab) 23 := heap_alloc2_old _ _ _
  have b01 : Blk ((w.alloc (.cells (labA zlab) 23)).alloc (.cells (labA zlab) 23)) (w.heap.size + 1) (labA zlab) 23 := heap_alloc2_new _ _ _
  go_enter Try.func12, Try.ntmps12
  go_wp2_with (first | (refine wpList_build (by rfl) 23 ([(0, .const (.int .u8 192))]) (by rfl) ([(0, .int .u8 192)]) (by rfl) (.agg (labA (lab1 192))) (build_192) ?_; simp only [Act.put, List.setIfInBounds_toArray, List.set_cons_succ, List.set_cons_zero]) | (refine wpList_build (by rfl) 23 ([(0, .const (.int .u8 224))]) (by rfl) ([(0, .int .u8 224)]) (by rfl) (.agg (labA (lab1 224))) (build_224) ?_; simp only [Act.put, List.setIfInBounds_toArray, List.set_cons_succ, List.set_cons_zero]) | (refine wpList_fresh (by rfl) 23 (by rfl) _ fresh_lab ?_; simp only [Act.put, List.setIfInBounds_toArray, List.set_cons_succ, List.set_cons_zero]; try simp only [World.size_alloc]) | ((refine wpList_store_blk (by rfl) 23 (.tmp 1) (.tmp 5) (by rfl) (0) (labA (lab1 192)) (by rfl) (by rfl) (b00) (by rw [labA_size, labA_size, lab1_length, zlab_length]; omega) (hz _) (labA_all _) ?_; simp only [Act.put]); intro w1 b1 o1; rw [splice_all _ _ (by rw [labA_size, labA_size, lab1_length, zlab_length])] at b1; have b2 : Blk w1 (w.heap.size + 1) (labA zlab) 23 := b01.only o1 (by omega)) | ((refine wpList_store_blk (by rfl) 23 (.tmp 2) (.tmp 6) (by rfl) (0) (labA (lab1 224)) (by rfl) (by rfl) (b2) (by rw [labA_size, labA_size, lab1_length, zlab_length]; omega) (hz _) (labA_all _) ?_; simp only [Act.put]); intro w2 b3 o2; rw [splice_all _ _ (by rw [labA_size, labA_size, lab1_length, zlab_length])] at b3; have b4 := b1.only o2 (by omega); have hb2 : Below w.heap.size w w2 := o2.below (o1.below (((Below.refl _ _).alloc (Nat.le_refl _) _).alloc (by simp) _) (by omega)) (by omega); clear o1 o2 b1 b2) | (refine wpList_load_blk (by rfl) 23 (.tmp 13) (by rfl) 0 (by rfl) (b4) (labA (lab1 192)) whole_at _ Try.underlying23 (by rfl) (hz _) ?_; simp only [Act.put, List.setIfInBounds_toArray, List.set_cons_succ, List.set_cons_zero]) | (refine wpList_load_blk (by rfl) 23 (.tmp 17) (by rfl) 0 (by rfl) (b4) (labA (lab1 192)) whole_at _ Try.underlying23 (by rfl) (hz _) ?_; simp only [Act.put, List.setIfInBounds_toArray, List.set_cons_succ, List.set_cons_zero]) | (refine wpList_load_blk (by rfl) 23 (.tmp 1) (by rfl) 0 (by rfl) (b4) (labA (lab1 192)) whole_at _ Try.underlying23 (by rfl) (hz _) ?_; simp only [Act.put, List.setIfInBounds_toArray, List.set_cons_succ, List.set_cons_zero]) | (refine wpList_load_blk (by rfl) 23 (.tmp 2) (by rfl) 0 (by rfl) (b3) (labA (lab1 224)) whole_at _ Try.underlying23 (by rfl) (hz _) ?_; simp only [Act.put, List.setIfInBounds_toArray, List.set_cons_succ, List.set_cons_zero]) | (refine wpList_load_blk (by rfl) 29 (.tmp 3) (by rfl) 0 (by rfl) (bp) (prefA 3 (lab1 224)) whole_at _ Try.underlying29 (by rfl) (hz29 _ _) ?_; simp only [Act.put, List.setIfInBounds_toArray, List.set_cons_succ, List.set_cons_zero]) | (go_at_call 22; with_reducible refine (Hc.out _).mono ?_; rintro e wn ⟨rfl, hbn⟩; replace b4 := b4.at_ hbn; replace b3 := b3.at_ hbn; replace hb2 := hb2.trans (hbn.mono hb2.size); (try replace bp := bp.at_ hbn); clear hbn) | (go_at_call 19; with_reducible refine (Hn.out _).mono ?_; rintro e wn ⟨rfl, hbn⟩; replace b4 := b4.at_ hbn; replace b3 := b3.at_ hbn; replace hb2 := hb2.trans (hbn.mono hb2.size); (try replace bp := bp.at_ hbn); clear hbn) | (go_at_call 13; with_reducible refine (Hb.out _).mono ?_; rintro e wn ⟨rfl, hbn⟩; replace b4 := b4.at_ hbn; replace b3 := b3.at_ hbn; replace hb2 := hb2.trans (hbn.mono hb2.size); (try replace bp := bp.at_ hbn); clear hbn) | (go_at_call 17; with_reducible refine (Hm.out _).mono ?_; rintro e wn ⟨rfl, hbn⟩; replace b4 := b4.at_ hbn; replace b3 := b3.at_ hbn; replace hb2 := hb2.trans (hbn.mono hb2.size); (try replace bp := bp.at_ hbn); clear hbn) | (go_at_call 15; with_reducible refine (Ho.out _).mono ?_; rintro e wn ⟨rfl, hbn⟩; replace b4 := b4.at_ hbn; replace b3 := b3.at_ hbn; replace hb2 := hb2.trans (hbn.mono hb2.size); (try replace bp := bp.at_ hbn); clear hbn) | (refine wpList_fresh (by rfl) 29 (by rfl) _ fresh_pref ?_; simp only [Act.put, List.setIfInBounds_toArray, List.set_cons_succ, List.set_cons_zero]; try simp only [World.size_alloc]) | ((refine wpList_store_blk (by rfl) 29 (.tmp 3) (.tmp 11) (by rfl) (0) (prefA 3 (lab1 224)) (by rfl) (by rfl) ((Blk.new _ _ _)) (by rw [prefA_size, prefA_size, lab1_length, zlab_length]; omega) (hz29 _ _) (prefA_all _ _) ?_; simp only [Act.put]); intro w5 bp o5; rw [splice_all _ _ (by rw [prefA_size, prefA_size, lab1_length, zlab_length])] at bp; have hl3 := b3.lt; replace b4 := (b4.alloc _).only o5 (by omega); replace b3 := (b3.alloc _).only o5 (by omega); replace hb2 := o5.below (hb2.alloc hb2.size _) (by omega); clear o5) | (refine wpList_build (by rfl) 29 ([(0, .const (.int .i64 3)), (1, .tmp 34)]) (by rfl) ([(0, .int .i64 3), (1, .agg (labA (lab1 224)))]) (by rfl) (.agg (prefA 3 (lab1 224))) (build_want) ?_; simp only [Act.put, List.setIfInBounds_toArray, List.set_cons_succ, List.set_cons_zero]) | (refine wpList_bin (by rfl) .eql 29 29 (.tmp 33) (.tmp 35) (by rfl) (prefA 3 (lab1 224)) (prefA 3 (lab1 224)) (by rfl) (by rfl) guard29 (.bool true) (aw_eq) ?_; simp only [Act.put, List.setIfInBounds_toArray, List.set_cons_succ, List.set_cons_zero]))
  go_ret
  exact ⟨rfl, hb2⟩
end Go.Proofs.Ytokjmdlklhkjlaa

/- The walk of bits.Hex. -/
import Derived.Test.YtokjmdlklhkjlaaWHex
import Derived.Test.YtokjmdlklhkjlaaKit2
namespace Go.Proofs.Ytokjmdlklhkjlaa
open Go.RowKit

theorem shr4 (x : Nat) : (x : Int) / 16 = ((x / 16 : Nat) : Int) := by omega
theorem u8_and15 (x : Nat) (hx : x < 256) : bits .and .u8 (x : Int) 15 = ((x % 16 : Nat) : Int) := by
  have h := u8_and_nat x 15 hx (by omega)
  rw [show x &&& 15 = x % 16 from Nat.and_two_pow_sub_one_eq_mod x 4] at h
  exact h

theorem index_lab (l : List UInt8) (hl : l.length = 32) (k : Nat) (hk : k < 32) (w : World) : (Instr.index 23 (.agg (labA l)) (.int .i64 (k : Int))).run Try.prog w = .ok (.int .u8 ((l.getD k 0).toNat : Int)) w := by
  have h1 : (isAgg 5).run Try.prog w = .ok false w := by kernel_rfl
  have h2 : (sizeOf 5).run Try.prog w = .ok 1 w := by kernel_rfl
  have h3 : 0 ≤ (k : Int) ∧ (k : Int) < 32 := by omega
  have h4 := labA_get l k (by omega)
  unfold Instr.index
  simp only [asIntOf, Sem.run_bind, Sem.run_pure, Result.andThen_ok, run_underlying Try.underlying23]
  rw [show ((32 : Nat) : Int) = 32 from rfl, if_pos h3]
  simp only [part, Sem.run_bind, h1, h2, Result.andThen_ok, Int.toNat_natCast, Nat.mul_one, Bool.false_eq_true, if_false, h4, Sem.run_pure]
theorem cells2 (w : World) (x y : Int) (t : TypeId) : ∀ (j : Nat) (u : Value), [Value.int .u8 x, .int .u8 y][j]? = some u → (w.alloc (.cells #[.int .u8 x, .int .u8 y] t)).cell? ((⟨w.heap.size, 0, none⟩ : Addr).add j) = some u := by
  intro j u h
  rw [Addr.add_mid, cell_of_row _ _ _ _ _ _ (heap_alloc_new w _)]
  match j, h with
  | 0, h => simpa using h
  | 1, h => simpa using h
  | j + 2, h => simp at h
theorem one2 (x y : Int) : ∀ u ∈ [Value.int .u8 x, .int .u8 y], u.oneCell' = true := by
  intro u hu
  rcases List.mem_cons.1 hu with rfl | hu
  · rfl
  · rcases List.mem_cons.1 hu with rfl | hu
    · rfl
    · cases hu
set_option maxHeartbeats 1000000 in
/-- bits.Hex. -/
theorem hex_any (l : List UInt8) (hl : l.length = 32) (w : World) : Calls Try.prog 30 #[.agg (labA l)] w fun e w' => e = .returned (.string ⟨(B.hex l).toArray⟩) ∧ Below w.heap.size w w' := by
  have hz : (Try.prog.info? 23).map (·.size) = some (labA l).size := by rw [labA_size, hl]; kernel_rfl
  obtain ⟨i5, hi, hz0, hz1, hz2⟩ := info_parts info_u8
  have b0 := Blk.new w (labA l) 23
  go_enter Try.func30, Try.ntmps30
  go_wp2_with (first | (refine wpList_make_own _ rfl (.const (.int .i64 0)) (.const (.int .i64 64)) 43 rfl w.heap.size 5 i5 (.int .u8 0) 1 Try.underlying43 hi hz0 hz1 .i64 .i64 64 64 rfl rfl rfl (by rw [hz2]; omega) (by decide) (by simp) ?_; intro w1 hown hgr; replace b0 := b0.grown hgr (by simp); have hb := below_grown ((Below.refl w.heap.size w).alloc (Nat.le_refl _) (.cells (labA l) 23)) (by simp) hgr (by intro k hk; cases hk); simp only [World.size_alloc] at hown; clear hgr) | (refine wpList_load_blk (by rfl) 23 (.tmp 1) (by rfl) 0 (by rfl) (b0) (labA l) whole_at _ Try.underlying23 (by rfl) hz ?_; simp only [Act.put, List.setIfInBounds_toArray, List.set_cons_succ, List.set_cons_zero]))
  go_loopw [3, 8] (fun o v wr => ∃ k : Nat, k ≤ 32 ∧ v = .int .i64 (k : Int) ∧ o = .slice (some ⟨w.heap.size + 1, 0, none⟩) (2 * k) 64 ∧ Below w.heap.size w wr ∧ w.heap.size + 1 < wr.heap.size ∧ wr.ownsRow w.heap.size 5 1 (.slice (some ⟨w.heap.size + 1, 0, none⟩) (2 * k) 64) (2 * k) ((B.hex (l.take k)).map byteV)) (fun _ v _ => 32 - (intOf v).toNat)
  case atStart => exact ⟨0, by omega, by simp, rfl, hb, by simpa using (hown.lt _ rfl).2, by simpa [B.hex] using hown⟩
  case round =>
    obtain ⟨k, hk, rfl, rfl, hbel, hlt2, hown⟩ := hrel
    by_cases hlt : k < 32
    · have hx := (l.getD k 0).toNat_lt
      have hget := index_lab l hl k hlt
      have hs4 := shr4 (l.getD k 0).toNat
      have hm4 := u8_and15 (l.getD k 0).toNat hx
      have hd1 := digs_at ((l.getD k 0).toNat / 16)
      have hd2 := digs_at ((l.getD k 0).toNat % 16)
      have hq1 : (((l.getD k 0).toNat / 16 : Nat) : Int) < 16 := by omega
      have hq2 : (((l.getD k 0).toNat % 16 : Nat) : Int) < 16 := by omega
      have hnew : (B.hex (l.take k)).map byteV ++ [.int .u8 ((B.hexd ((l.getD k 0).toNat / 16)).toNat : Int), .int .u8 ((B.hexd ((l.getD k 0).toNat % 16)).toNat : Int)] = (B.hex (l.take (k + 1))).map byteV := by
        rw [bytes_snoc2, ← B.hex_snoc, List.take_succ_eq_append_getElem (by omega), List.getD_eq_getElem?_getD, List.getElem?_eq_getElem (by omega), Option.getD_some]
      have Hnew := Lib.hid hnew
      clear hnew
      generalize (l.getD k 0).toNat / 16 = y1 at hs4 hd1 hq1 Hnew
      generalize (l.getD k 0).toNat % 16 = y2 at hm4 hd2 hq2 Hnew
      generalize (l.getD k 0).toNat = x at hget hs4 hm4 hx
      go_wp2
      go_region_law (refine step_append_fits rfl (.tmp 11) (.tmp 18) 43 rfl w.heap.size 5 i5 1 Try.underlying43 hi hz1 (w.heap.size + 1) (2 * k) 64 _ rfl (hown.drew.alloc _) ⟨wr.heap.size, 0, none⟩ 2 2 [.int .u8 ((B.hexd y1).toNat : Int), .int .u8 ((B.hexd y2).toNat : Int)] rfl rfl (cells2 _ _ _ _) (one2 _ _) (by omega) ?_; intro w2 hown2 hgr2)
      clear hs4 hm4 hd1 hd2 hget
      all_goals
        rw [Hnew.out] at hown2
        have hb2 := below_grown ((hbel.drew).alloc hbel.size (.cells #[.int .u8 ((B.hexd y1).toNat : Int), .int .u8 ((B.hexd y2).toNat : Int)] 5)) (by have := hbel.size; simp; omega) hgr2 (by intro j hj; cases hj; omega)
        have hl2 : wr.heap.size + 1 ≤ w2.heap.size := by have := hgr2.size; simpa using this
        go_wp2
        go_roundw
        case rel => exact ⟨k + 1, by omega, by go_num, rfl, hb2, by omega, hown2⟩
        case measure => simp [intOf]; omega
    · have hk32 : k = 32 := by omega
      subst hk32
      rw [List.take_of_length_le (by omega)] at hown
      have hconv := own_string (src := 43) (dst := 9) hown Try.underlying43 Try.underlying5 Try.underlying9
      go_wp2
      go_ret
      exact ⟨rfl, hbel⟩
end Go.Proofs.Ytokjmdlklhkjlaa

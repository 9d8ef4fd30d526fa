/- The walks of prefixes in package bits: Cut, Good, Has, Over, Next; the reference's Good. -/
import Derived.Test.YtgjmnhbkdccgpaaWCut
import Derived.Laws.CopyOwn
namespace Go.Proofs.Ytgjmnhbkdccgpaa
open Go.RowKit

theorem build_pref1 (n : Int) (w : World) : (Instr.build 63 #[(0, .int .i64 n)]).run Try.prog w = .ok (.agg (prefA n zlab)) w := by kernel_rfl

theorem andNot_mask (x r : Nat) (hx : x < 256) : bits .andNot .u8 (x : Int) (255 / 2 ^ r) = ((x &&& (255 - 255 / 2 ^ r) : Nat) : Int) := by
  have h := u8_andNot_nat x (255 / 2 ^ r) hx (Nat.lt_of_le_of_lt (Nat.div_le_self _ _) (by decide))
  rw [← h, Int.natCast_ediv, Int.natCast_pow]; rfl

set_option maxRecDepth 100000 in
set_option maxHeartbeats 1000000 in
/-- bits.Cut. -/
theorem cut_any (l : List UInt8) (hl : l.length = 32) (n : Int) (w : World) :
    Calls Try.prog 83 #[.agg (labA l), .int .i64 n] w fun e w' => e = .returned (.agg (prefA (min n.toNat 256 : Nat) (B.cut l (min n.toNat 256)))) ∧ Below w.heap.size w w' := by
  have hz29 : ∀ (k : Int) (m : List UInt8), m.length = 32 → (Try.prog.info? 63).map (·.size) = some (prefA k m).size := fun k m hm => by rw [prefA_size, hm]; kernel_rfl
  have hN : max 0 (min n 256) = ((min n.toNat 256 : Nat) : Int) := by omega
  have hN2 : min n.toNat 256 ≤ 256 := Nat.min_le_right _ _
  generalize min n.toNat 256 = N at hN hN2
  go_enter Try.func83, Try.ntmps83
  go_wp2_with (first | (refine wpList_fresh (by rfl) 63 (by rfl) _ fresh_pref ?_; simp only [Act.put, List.setIfInBounds_toArray, List.set_cons_succ, List.set_cons_zero]; try simp only [World.size_alloc]) | (refine wpList_build (by rfl) 63 ([(0, .tmp 9)]) (by rfl) ([(0, .int .i64 (N : Int))]) (by rfl) (.agg (prefA N zlab)) (build_pref1 _) ?_; simp only [Act.put, List.setIfInBounds_toArray, List.set_cons_succ, List.set_cons_zero]) | ((refine wpList_store_blk (by rfl) 63 (.tmp 5) (.tmp 10) (by rfl) (0) (prefA N zlab) (by rfl) (by rfl) ((blk_new3 w _ _ _ _)) (by rw [prefA_size, prefA_size]; omega) (hz29 _ _ zlab_length) (prefA_all _ _) ?_; simp only [Act.put]); intro w1 b2 o1))
  try simp only [Act.put, List.setIfInBounds_toArray, List.set_cons_succ, List.set_cons_zero]
  rw [splice_all _ _ (by rw [prefA_size, prefA_size])] at b2
  have b0 : Blk w1 w.heap.size (labA l) 25 := Blk.only (((Blk.new w (labA l) 25).alloc _).alloc _) o1 (by simp; omega)
  have b1 : Blk w1 (w.heap.size + 1) (prefA 0 zlab) 63 := Blk.only (Blk.alloc (heap_alloc2_new _ _ _) _) o1 (by simp)
  have hb1 : Below w.heap.size w w1 := o1.below ((((Below.refl _ _).alloc (Nat.le_refl _) _).alloc (by simp) _).alloc (by simp; omega) _) (by first | omega | (simp; omega))
  try simp only [World.size_alloc] at b2
  clear o1
  have hq : (0 : Int) ≤ (N : Int) / 8 := by omega
  have hq2 : (N : Int) / 8 ≤ 32 := by omega
  have hq3 : IntKind.i64.wrap ((N : Int) / 8) = (N : Int) / 8 := IntWalk.i64_in _ (by omega)
  have hq4 : ((N : Int) / 8).toNat = N / 8 := by omega
  go_still_tail 5, (by kernel_rfl)
  clear hq hq2 hq3 hq4
  change wpList _ _ _ _ _ w1.drew
  have b0 : Blk w1.drew w.heap.size (labA l) 25 := b0
  have b1 : Blk w1.drew (w.heap.size + 1) (prefA 0 zlab) 63 := b1
  have b2 : Blk w1.drew (w.heap.size + 1 + 1) (prefA N zlab) 63 := b2
  have hb1 : Below w.heap.size w w1.drew := hb1.drew
  generalize w1.drew = W at b0 b1 b2 hb1
  have hlen : (l.take (N / 8)).length = N / 8 := by rw [List.length_take, hl]; omega
  have hsp : splice (prefA N zlab) 1 ((l.take (N / 8)).map byteV).toArray = prefA N (B.cutW l (N / 8)) := by rw [prefA_splice, B.cutW_eq l zlab _ hl (by omega) rfl]
  have hcl := B.cut_length l N
  by_cases h8 : N % 8 = 0
  · have hh : ((N : Int) % 8 != 0) = false := by rw [bne_eq_false_iff_eq]; omega
    have hw := B.cut_whole l N hl hN2 h8
    rw [hw] at hsp
    clear h8 hw
    go_wp2_with (first | (refine wpList_copy_blk (by rfl) (.tmp 12) (.tmp 15) 36 36 (by rfl) 5 Try.underlying36 (by kernel_rfl) 1 32 32 ⟨w.heap.size, 0, none⟩ (N / 8) 32 (by rfl) (by rfl) b2 ((l.take (N / 8)).map byteV) (by rw [List.length_map, hlen]; exact (Nat.min_eq_left (by omega)).symm) (src_bytes b0 (fun j hj => by rw [Nat.zero_add, labA_byte l j (by rw [hl]; rw [hlen] at hj; omega)]; rw [List.getD_eq_getElem?_getD, List.getD_eq_getElem?_getD, List.getElem?_take_of_lt (by rw [hlen] at hj; exact hj)])) (by rw [prefA_size, zlab_length, List.length_map, hlen]; omega) (bytes_one _) ?_; intro w3 b23 o3; rw [hsp] at b23; have b03 := b0.only o3 (by omega); have b13 := b1.only o3 (by omega)) | (refine wpList_load_blk (by rfl) 63 (.tmp 5) (by rfl) 0 (by rfl) (b23) (prefA N (B.cut l N)) whole_at _ Try.underlying63 (by rfl) (hz29 _ _ hcl) ?_; simp only [Act.put, List.setIfInBounds_toArray, List.set_cons_succ, List.set_cons_zero]) | ((refine wpList_store_blk (by rfl) 63 (.tmp 4) (.tmp 32) (by rfl) (0) (prefA N (B.cut l N)) (by rfl) (by rfl) (b13) (by rw [prefA_size, prefA_size, hcl, zlab_length]; omega) (hz29 _ _ hcl) (prefA_all _ _) ?_; simp only [Act.put]); intro w4 b14 o4))
    rw [splice_all _ _ (by rw [prefA_size, prefA_size, hcl, zlab_length])] at b14
    exact bodyPost_ret (v := .agg (prefA N (B.cut l N))) (results_blk (by rfl) _ b14 _ (by rfl) Try.underlying63 (by rfl) (hz29 _ _ hcl)) rfl ⟨rfl, o4.below (o3.below hb1 (by omega)) (by omega)⟩
  · have hh : ((N : Int) % 8 != 0) = true := by rw [bne_iff_ne]; omega
    go_wp2_with (refine wpList_copy_blk (by rfl) (.tmp 12) (.tmp 15) 36 36 (by rfl) 5 Try.underlying36 (by kernel_rfl) 1 32 32 ⟨w.heap.size, 0, none⟩ (N / 8) 32 (by rfl) (by rfl) b2 ((l.take (N / 8)).map byteV) (by rw [List.length_map, hlen]; exact (Nat.min_eq_left (by omega)).symm) (src_bytes b0 (fun j hj => by rw [Nat.zero_add, labA_byte l j (by rw [hl]; rw [hlen] at hj; omega)]; rw [List.getD_eq_getElem?_getD, List.getD_eq_getElem?_getD, List.getElem?_take_of_lt (by rw [hlen] at hj; exact hj)])) (by rw [prefA_size, zlab_length, List.length_map, hlen]; omega) (bytes_one _) ?_; intro w3 b23 o3; rw [hsp] at b23; have b03 := b0.only o3 (by omega); have b13 := b1.only o3 (by omega))
    have hq : (0 : Int) ≤ (N : Int) / 8 := by omega
    have hq2 : (N : Int) / 8 < 32 := by omega
    have hq3 : IntKind.i64.wrap ((N : Int) / 8) = (N : Int) / 8 := IntWalk.i64_in _ (by omega)
    have hq4 : ((N : Int) / 8).toNat = N / 8 := by omega
    have hq5 : (N : Int).tmod 8 = ((N % 8 : Nat) : Int) := by rw [Int.tmod_eq_emod_of_nonneg (by omega)]; omega
    have hq6 : N % 8 ≤ 7 := by omega
    have hc := b03.cellv (labA_get l (N / 8) (by omega))
    have hset := prefA_set N (B.cutW l (N / 8)) (N / 8) (l.getD (N / 8) 0 &&& UInt8.ofNat (255 - 255 / 2 ^ (N % 8)))
    rw [B.cut_part l N hl hN2] at hset
    have hand := andNot_mask (l.getD (N / 8) 0).toNat (N % 8) (UInt8.toNat_lt _)
    rw [← B.cut_byte] at hand
    unfold byteV at hset
    generalize (l.getD (N / 8) 0 &&& UInt8.ofNat (255 - 255 / 2 ^ (N % 8))).toNat = Y at hset hand
    generalize (l.getD (N / 8) 0).toNat = x at hc hand
    generalize hR : N % 8 = R at hq5 hq6 hand
    have Hset := Lib.hid hset
    clear hset hR
    go_still_tail 12, (by kernel_rfl)
    clear hq hq2 hq3 hq4 hq5 hand hc
    change wpList _ _ _ _ _ w3.drew
    have b04 : Blk w3.drew w.heap.size (labA l) 25 := b03
    have b14 : Blk w3.drew (w.heap.size + 1) (prefA 0 zlab) 63 := b13
    have b24 : Blk w3.drew (w.heap.size + 1 + 1) (prefA N (B.cutW l (N / 8))) 63 := b23
    have hb4 : Below w.heap.size w w3.drew := (o3.below hb1 (by omega)).drew
    generalize w3.drew = w4 at b04 b14 b24 hb4
    have c5 := b24.cellv (prefA_get N _ (N / 8) (by rw [B.cutW_length _ _ hl (by omega)]; omega))
    have f5 := b24.free (1 + N / 8)
    clear hsp b03 b13 b23 b04 o3
    go_wp2_with (first | (refine wpList_load_blk (by rfl) 63 (.tmp 5) (by rfl) 0 (by rfl) ((by have h9 := b24.set_ (1 + N / 8) (.int .u8 (Y : Int)); rw [Hset.out] at h9; exact h9)) (prefA N (B.cut l N)) whole_at _ Try.underlying63 (by rfl) (hz29 _ _ hcl) ?_; simp only [Act.put, List.setIfInBounds_toArray, List.set_cons_succ, List.set_cons_zero]) | ((refine wpList_store_blk (by rfl) 63 (.tmp 4) (.tmp 32) (by rfl) (0) (prefA N (B.cut l N)) (by rfl) (by rfl) ((b14.far (p := ⟨w.heap.size + 1 + 1, 1 + N / 8, none⟩) (by simp) _)) (by rw [prefA_size, prefA_size, hcl, zlab_length]; omega) (hz29 _ _ hcl) (prefA_all _ _) ?_; simp only [Act.put]); intro w5 b15 o5))
    rw [splice_all _ _ (by rw [prefA_size, prefA_size, hcl, zlab_length])] at b15
    exact bodyPost_ret (v := .agg (prefA N (B.cut l N))) (results_blk (by rfl) _ b15 _ (by rfl) Try.underlying63 (by rfl) (hz29 _ _ hcl)) rfl ⟨rfl, o5.below (hb4.setCell (by simp; omega) _) (by omega)⟩
end Go.Proofs.Ytgjmnhbkdccgpaa

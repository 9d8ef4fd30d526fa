/- RdGLC, its imports turned. -/
import Derived.Test.YtgjmnhbkdccgpaaQRM

namespace Go.Proofs.Ytgjmnhbkdccgpaa
open Go.RowKit

set_option maxRecDepth 100000 in
set_option maxHeartbeats 4000000 in
theorem readD_lc (s : List UInt8) (hs : s.length ≤ 65536) (hf : (D.flag s ⟨0, 0⟩).1 = false) (hd : D.done s (D.rnode s).2 = 0) (hc : (D.rnode s).1.err ≠ 0) (w : World) :
    Calls Try.prog 55 #[.string ⟨s.toArray⟩] w fun e w' => e = .returned (D.rdOut s) ∧ Below w.heap.size w w' := by
  have hs2 : s.length ≤ 1000000 := by omega
  have HO := Lib.hid (fun W => ropen2_any s hs W)
  have HF := Lib.hid (fun W => rflag2_any s hs2 ⟨0, 0⟩ (Nat.zero_le _) W)
  have hO : D.rdOut s = if D.rdErr s = 0 then .tuple #[.agg (D.rnode s).1.outL.toArray, .agg (D.rnode s).1.outA.toArray, .agg (D.rnode s).1.outB.toArray, .bool (D.rnode s).1.isI, .int .i64 0]
    else .tuple #[.agg (leafC zlab zlab 0).toArray, .agg (itemC 0 zlab zlab 0).toArray, .agg (itemC 0 zlab zlab 0).toArray, .bool false, .int .i64 (D.rdErr s)] := rfl
  have hE : D.rdErr s = if D.done s (D.rnode s).2 = 0 then (D.rnode s).1.err else (D.done s (D.rnode s).2 : Nat) := rfl
  have hR : D.rnode s = if (D.flag s ⟨0, 0⟩).1 = true then (.inner (D.ritem s (D.flag s ⟨0, 0⟩).2).1 (D.ritem s (D.ritem s (D.flag s ⟨0, 0⟩).2).2).1, (D.ritem s (D.ritem s (D.flag s ⟨0, 0⟩).2).2).2)
    else (.leaf (D.rleaf s (D.flag s ⟨0, 0⟩).2).1.1 (D.rleaf s (D.flag s ⟨0, 0⟩).2).1.2.1 (D.rleaf s (D.flag s ⟨0, 0⟩).2).1.2.2, (D.rleaf s (D.flag s ⟨0, 0⟩).2).2) := rfl
  have hr1 : (D.flag s ⟨0, 0⟩).2.loc ≤ s.length := D.flag_loc (Nat.zero_le _)
  generalize D.rdOut s = OUT at *
  generalize D.rdErr s = E at *
  generalize D.rnode s = N at *
  generalize D.flag s ⟨0, 0⟩ = F at *
  obtain ⟨f, r1⟩ := F
  dsimp only at *
  have zz : zlab.length = 32 := rfl
  obtain ⟨G0, G1, G2, hB0⟩ := three_new w (leafC zlab zlab 0).toArray (itemC 0 zlab zlab 0).toArray (itemC 0 zlab zlab 0).toArray 77 72 72
  have zL := leaf_sz zlab zlab 0 rfl rfl
  have zI := item_sz 0 zlab zlab 0 rfl rfl
  have fL : 0 + (leafC zlab zlab 0).toArray.size ≤ (leafC zlab zlab 0).toArray.size := by omega
  have fI : 0 + (itemC 0 zlab zlab 0).toArray.size ≤ (itemC 0 zlab zlab 0).toArray.size := by omega
  have oL := leafC_one2 zlab zlab 0
  have oI := itemC_one 0 zlab zlab 0
  have sL := splice_all (leafC zlab zlab 0).toArray (leafC zlab zlab 0).toArray rfl
  have sI := splice_all (itemC 0 zlab zlab 0).toArray (itemC 0 zlab zlab 0).toArray rfl
  obtain ⟨loc1, err1⟩ := r1
  unfold curV at HO HF
  dsimp only at HO HF
  rw [show ((0 : Nat) : Int) = 0 from rfl] at HO HF
  go_enter Try.func55, Try.ntmps55
  obtain rfl : f = false := hf
  rw [if_neg (by simp)] at hR
  have HA := Lib.hid (fun W => rleafD_any s hs2 ⟨loc1, err1⟩ hr1 W)
  have HD := Lib.hid (fun W => rdone2_any s (D.rleaf s ⟨loc1, err1⟩).2 W)
  have l1 : (D.rleaf s ⟨loc1, err1⟩).1.1.length = 32 := D.label_len _ _
  have l2 : (D.rleaf s ⟨loc1, err1⟩).1.2.1.length = 32 := D.label_len _ _
  generalize D.rleaf s ⟨loc1, err1⟩ = X at *
  obtain ⟨⟨l, v, t⟩, ⟨loc2, err2⟩⟩ := X
  subst hR
  dsimp only at *
  replace hE : E = if D.done s ⟨loc2, err2⟩ = 0 then D.leafE (t : Int) else (D.done s ⟨loc2, err2⟩ : Nat) := hE
  replace hO : OUT = if E = 0 then .tuple #[.agg (leafC l v (t : Int)).toArray, .agg (itemC 0 zlab zlab 0).toArray, .agg (itemC 0 zlab zlab 0).toArray, .bool false, .int .i64 0] else .tuple #[.agg (leafC zlab zlab 0).toArray, .agg (itemC 0 zlab zlab 0).toArray, .agg (itemC 0 zlab zlab 0).toArray, .bool false, .int .i64 E] := hO
  replace hc : D.leafE (t : Int) ≠ 0 := hc
  have hl : D.leafE (t : Int) = if 0 ≤ (t : Int) ∧ (t : Int) ≤ 1073741824 then 0 else 1 := rfl
  generalize D.leafE (t : Int) = c at *
  generalize D.done s ⟨loc2, err2⟩ = d at *
  unfold curV at HA HD
  dsimp only at HA HD
  have zV := leaf_sz l v (t : Int) l1 l2
  have qV := leaf_fit l v (t : Int) zlab zlab 0 l1 l2 rfl rfl
  have fV : 0 + (leafC l v (t : Int)).toArray.size ≤ (leafC zlab zlab 0).toArray.size := by omega
  have oV := leafC_one2 l v (t : Int)
  have sV := splice_all (leafC zlab zlab 0).toArray (leafC l v (t : Int)).toArray qV.symm
  have at64 : (leafC l v (t : Int)).toArray[64]? = some (.int .i64 (t : Int)) := by rw [List.getElem?_toArray]; exact leafC_at l v (t : Int) l1 l2
  clear l1 l2 hr1
  subst hd
  rw [if_pos rfl] at hE
  subst hE
  by_cases ht : (1073741824 : Int) < (t : Int)
  case neg => rw [if_pos (by omega)] at hl; exact absurd hl hc
  rw [if_neg (by omega)] at hl
  subst hl
  have d1 : decide ((1073741824 : Int) < (t : Int)) = true := decide_eq_true ht
  have d2 : decide (1073741824 < t) = true := decide_eq_true (by omega)
  rw [if_neg hc] at hO
  have HOU := Lib.hid hO
  clear hO hc ht
  rw [show ((0 : Nat) : Int) = 0 from rfl] at HD
  go_wp2_with (first | (refine wpList_fresh (by rfl) 77 (by rfl) _ fresh_rleaf ?_; simp only [Act.put, List.setIfInBounds_toArray, List.set_cons_succ, List.set_cons_zero]; try simp only [World.size_alloc]) | (refine wpList_fresh (by rfl) 72 (by rfl) _ fresh_told ?_; simp only [Act.put, List.setIfInBounds_toArray, List.set_cons_succ, List.set_cons_zero]; try simp only [World.size_alloc]) | (go_at_call 92; (with_reducible refine (HO.out _).mono ?_); go_loud (rintro e u1 ⟨rfl, hu1⟩)) | (go_at_call 91; (with_reducible refine (HF.out _).mono ?_); go_loud (rintro e u2 ⟨rfl, hu2⟩; have g0 : w.heap.size + 3 ≤ u2.heap.size := (by have := hu1.size; have := hu2.size; simp only [World.size_alloc] at *; omega); have G0' := (G0.at_ hu1).at_ hu2; have G1' := (G1.at_ hu1).at_ hu2; have G2' := (G2.at_ hu1).at_ hu2; have hB1 := (hB0.trans (hu1.mono hB0.size)).trans (hu2.mono (by have := hB0.size; have := hu1.size; omega)); obtain ⟨c0, l0, a0, b0, hV⟩ := four_new u2 #[.string ⟨s.toArray⟩, .int .i64 (loc1 : Int), .int .i64 (err1 : Int)] (leafC zlab zlab 0).toArray (itemC 0 zlab zlab 0).toArray (itemC 0 zlab zlab 0).toArray 129 77 72 72)) | (refine wpList_build (by rfl) 77 ([]) (by rfl) ([]) (by rfl) (.agg (leafC zlab zlab 0).toArray) (zero_rleaf) ?_; simp only [Act.put, List.setIfInBounds_toArray, List.set_cons_succ, List.set_cons_zero]) | (refine wpList_build (by rfl) 72 ([]) (by rfl) ([]) (by rfl) (.agg (itemC 0 zlab zlab 0).toArray) (zero_ritem) ?_; simp only [Act.put, List.setIfInBounds_toArray, List.set_cons_succ, List.set_cons_zero]) | ((refine wpList_store_blk (by rfl) 77 (.tmp 9) (.tmp 20) (by rfl) (0) ((leafC zlab zlab 0).toArray) (by rfl) (by rfl) (l0) (fL) zL (oL) ?_; simp only [Act.put]); go_loud (intro u3 b3 ob3; rw [sL] at b3; skip)) | ((refine wpList_store_blk (by rfl) 72 (.tmp 10) (.tmp 21) (by rfl) (0) ((itemC 0 zlab zlab 0).toArray) (by rfl) (by rfl) ((a0.only ob3 (by omega))) (fI) zI (oI) ?_; simp only [Act.put]); go_loud (intro u4 b4 ob4; rw [sI] at b4; skip)) | ((refine wpList_store_blk (by rfl) 72 (.tmp 11) (.tmp 22) (by rfl) (0) ((itemC 0 zlab zlab 0).toArray) (by rfl) (by rfl) (((b0.only ob3 (by omega)).only ob4 (by omega))) (fI) zI (oI) ?_; simp only [Act.put]); go_loud (intro u5 b5 ob5; rw [sI] at b5; have D5 := ((c0.only ob3 (by omega)).only ob4 (by omega)).only ob5 (by omega); have L5 := (b3.only ob4 (by omega)).only ob5 (by omega); have A5 := b4.only ob5 (by omega); have hV5 := ob5.below (ob4.below (ob3.below hV (by omega)) (by omega)) (by omega); have R05 := G0'.at_ hV5; have R15 := G1'.at_ hV5; have R25 := G2'.at_ hV5; have hB5 := hB1.trans (hV5.mono (by omega)); obtain ⟨x10, x11, x12, y10, y11, y12⟩ := free3 D5; clear ob3 ob4 ob5 b3 b4 c0 l0 a0 b0 hV hV5)) | (go_at_call 94; (with_reducible refine (HA.out _).mono ?_); go_loud (rintro e u6 ⟨rfl, hu6⟩; have D6 := D5.at_ hu6; have hB6 := hB5.trans (hu6.mono hB5.size); obtain ⟨x20, x21, x22, y20, y21, y22⟩ := free3 D6)) | ((refine wpList_store_blk (by rfl) 77 (.tmp 9) (.tmp 38) (by rfl) (0) ((leafC l v (t : Int)).toArray) (by rfl) (by rfl) ((Blk.only (L5.at_ hu6) (blk3 D6 _ _ _).2 (by omega))) (fV) zV (oV) ?_; simp only [Act.put]); go_loud (intro u7 L7 oL7; rw [sV] at L7; obtain ⟨D7, K7, M7⟩ := cur_item D6 (by omega) oL7; have A7 := K7 _ _ _ (A5.at_ hu6) (by omega) (by omega); have b7 := K7 _ _ _ (b5.at_ hu6) (by omega) (by omega); have R07 := K7 _ _ _ (R05.at_ hu6) (by omega) (by omega); have R17 := K7 _ _ _ (R15.at_ hu6) (by omega) (by omega); have R27 := K7 _ _ _ (R25.at_ hu6) (by omega) (by omega); have hB7 := M7 _ _ (by omega) (by omega) hB6; obtain ⟨x30, x31, x32, y30, y31, y32⟩ := free3 D7)) | (go_at_call 95; (with_reducible refine (HD.out _).mono ?_); go_loud (rintro e u10 ⟨rfl, hu10⟩; have L10 := L7.at_ hu10; have A10 := A7.at_ hu10; have b10 := b7.at_ hu10; have R010 := R07.at_ hu10; have R110 := R17.at_ hu10; have R210 := R27.at_ hu10; have hB10 := hB7.trans (hu10.mono hB7.size); have c64 := L10.cellv at64)) | ((refine wpList_store_blk (by rfl) 77 (.tmp 2) (.tmp 56) (by rfl) (0) ((leafC zlab zlab 0).toArray) (by rfl) (by rfl) (R010) (fL) zL (oL) ?_; simp only [Act.put]); go_loud (intro v1 r0 or0; rw [sL] at r0; skip)) | ((refine wpList_store_blk (by rfl) 72 (.tmp 3) (.tmp 57) (by rfl) (0) ((itemC 0 zlab zlab 0).toArray) (by rfl) (by rfl) ((R110.only or0 (by omega))) (fI) zI (oI) ?_; simp only [Act.put]); go_loud (intro v2 r1 or1; rw [sI] at r1; skip)) | ((refine wpList_store_blk (by rfl) 72 (.tmp 4) (.tmp 58) (by rfl) (0) ((itemC 0 zlab zlab 0).toArray) (by rfl) (by rfl) (((R210.only or0 (by omega)).only or1 (by omega))) (fI) zI (oI) ?_; simp only [Act.put]); go_loud (intro v3 r2 or2; rw [sI] at r2; have r0b := (r0.only or1 (by omega)).only or2 (by omega); have r1b := r1.only or2 (by omega); have hBz := or2.below (or1.below (or0.below hB10 (by omega)) (by omega)) (by omega))))
  exact bodyPost_ret (v := .tuple #[.agg (leafC zlab zlab 0).toArray, .agg (itemC 0 zlab zlab 0).toArray, .agg (itemC 0 zlab zlab 0).toArray, .bool false, .int .i64 1]) (results_5 (by rfl) _ r0b r1b r2 _ _ _ _ _ (by rfl) (by rfl) (by rfl) (by rfl) (by rfl) Try.underlying77 (by rfl) zL Try.underlying72 (by rfl) zI Try.underlying72 (by rfl) zI) rfl ⟨by rw [HOU.out], hBz⟩
end Go.Proofs.Ytgjmnhbkdccgpaa

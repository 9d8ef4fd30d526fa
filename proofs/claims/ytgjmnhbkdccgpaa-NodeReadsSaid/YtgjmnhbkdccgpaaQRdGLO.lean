/- RdGLO, its imports turned. -/
import Derived.Test.YtgjmnhbkdccgpaaQRM

namespace Go.Proofs.Ytgjmnhbkdccgpaa
open Go.RowKit

set_option maxRecDepth 100000 in
set_option maxHeartbeats 4000000 in
theorem readD_lo (s : List UInt8) (hs : s.length ≤ 65536) (hf : (D.flag s ⟨0, 0⟩).1 = false) (hd : D.done s (D.rnode s).2 = 0) (hc : (D.rnode s).1.err = 0) (w : World) :
    Calls Try.prog 55 #[.string ⟨s.toArray⟩] w fun e w' => e = .returned (D.rdOut s) ∧ Below w.heap.size w w' := by
  have hs2 : s.length ≤ 1000000 := by omega
  have HO := Lib.hid (fun W => ropen2_any s hs W)
  have HF := Lib.hid (fun W => rflag2_any s hs2 ⟨0, 0⟩ (Nat.zero_le _) W)
  have hO : D.rdOut s = if D.rdErr s = 0 then .tuple #[.agg (D.rnode s).1.outL.toArray, .agg (D.rnode s).1.outA.toArray, .agg (D.rnode s).1.outB.toArray, .bool (D.rnode s).1.isI, .int .i64 0]
    else .tuple #[.agg (leafC zlab zlab 0).toArray, .agg (itemC 0 zlab zlab 0).toArray, .agg (itemC 0 zlab zlab 0).toArray, .bool false, .int .i64 (D.rdErr s)] := rfl
  have hE : D.rdErr s = if D.done s (D.rnode s).2 = 0 then (D.rnode s).1.err else (D.done s (D.rnode s).2 : Nat) := rfl
  have hR : D.rnode s = if (D.flag s ⟨0, 0⟩).1 = true then (.inner (D.ritem s (D.flag s ⟨0, 0⟩).2).1 (D.ritem s (D.ritem s (D.flag s ⟨0, 0⟩).2).2).1, (D.ritem s (D.ritem s (D.flag s ⟨0, 0⟩).2).2).2)
    else (.leaf (D.rleaf s (D.flag s ⟨0, 0⟩).2).1.1 (D.rleaf s (D.flag s ⟨0, 0⟩).2).1.2.1 (D.rleaf s (D.flag s ⟨0, 0⟩).2).1.2.2, (D.rleaf s (D.flag s ⟨0, 0⟩).2).2) := rfl
  have hr1 : (D.flag s ⟨0, 0⟩).2.loc ≤ s.length := D.flag_loc (Nat.zero_le _)
  generalize D.rdOut s = OUT at *
  generalize D.rdErr s = E at *
  generalize D.rnode s = N at *
  generalize D.flag s ⟨0, 0⟩ = F at *
  obtain ⟨f, r1⟩ := F
  dsimp only at *
  have zz : zlab.length = 32 := rfl
  obtain ⟨G0, G1, G2, hB0⟩ := three_new w (leafC zlab zlab 0).toArray (itemC 0 zlab zlab 0).toArray (itemC 0 zlab zlab 0).toArray 77 72 72
  have zL := leaf_sz zlab zlab 0 rfl rfl
  have zI := item_sz 0 zlab zlab 0 rfl rfl
  have fL : 0 + (leafC zlab zlab 0).toArray.size ≤ (leafC zlab zlab 0).toArray.size := by omega
  have fI : 0 + (itemC 0 zlab zlab 0).toArray.size ≤ (itemC 0 zlab zlab 0).toArray.size := by omega
  have oL := leafC_one2 zlab zlab 0
  have oI := itemC_one 0 zlab zlab 0
  have sL := splice_all (leafC zlab zlab 0).toArray (leafC zlab zlab 0).toArray rfl
  have sI := splice_all (itemC 0 zlab zlab 0).toArray (itemC 0 zlab zlab 0).toArray rfl
  obtain ⟨loc1, err1⟩ := r1
  unfold curV at HO HF
  dsimp only at HO HF
  rw [show ((0 : Nat) : Int) = 0 from rfl] at HO HF
  go_enter Try.func55, Try.ntmps55
  obtain rfl : f = false := hf
  rw [if_neg (by simp)] at hR
  have HA := Lib.hid (fun W => rleafD_any s hs2 ⟨loc1, err1⟩ hr1 W)
  have HD := Lib.hid (fun W => rdone2_any s (D.rleaf s ⟨loc1, err1⟩).2 W)
  have l1 : (D.rleaf s ⟨loc1, err1⟩).1.1.length = 32 := D.label_len _ _
  have l2 : (D.rleaf s ⟨loc1, err1⟩).1.2.1.length = 32 := D.label_len _ _
  generalize D.rleaf s ⟨loc1, err1⟩ = X at *
  obtain ⟨⟨l, v, t⟩, ⟨loc2, err2⟩⟩ := X
  subst hR
  dsimp only at *
  replace hE : E = if D.done s ⟨loc2, err2⟩ = 0 then D.leafE (t : Int) else (D.done s ⟨loc2, err2⟩ : Nat) := hE
  replace hO : OUT = if E = 0 then .tuple #[.agg (leafC l v (t : Int)).toArray, .agg (itemC 0 zlab zlab 0).toArray, .agg (itemC 0 zlab zlab 0).toArray, .bool false, .int .i64 0] else .tuple #[.agg (leafC zlab zlab 0).toArray, .agg (itemC 0 zlab zlab 0).toArray, .agg (itemC 0 zlab zlab 0).toArray, .bool false, .int .i64 E] := hO
  replace hc : D.leafE (t : Int) = 0 := hc
  have hl : D.leafE (t : Int) = if 0 ≤ (t : Int) ∧ (t : Int) ≤ 1073741824 then 0 else 1 := rfl
  generalize D.leafE (t : Int) = c at *
  generalize D.done s ⟨loc2, err2⟩ = d at *
  unfold curV at HA HD
  dsimp only at HA HD
  have zV := leaf_sz l v (t : Int) l1 l2
  have qV := leaf_fit l v (t : Int) zlab zlab 0 l1 l2 rfl rfl
  have fV : 0 + (leafC l v (t : Int)).toArray.size ≤ (leafC zlab zlab 0).toArray.size := by omega
  have oV := leafC_one2 l v (t : Int)
  have sV := splice_all (leafC zlab zlab 0).toArray (leafC l v (t : Int)).toArray qV.symm
  have at64 : (leafC l v (t : Int)).toArray[64]? = some (.int .i64 (t : Int)) := by rw [List.getElem?_toArray]; exact leafC_at l v (t : Int) l1 l2
  clear l1 l2 hr1
  subst hd
  rw [if_pos rfl] at hE
  subst hE
  subst hc
  by_cases ht : (1073741824 : Int) < (t : Int)
  case pos => rw [if_neg (by omega)] at hl; exact absurd hl (by decide)
  have d1 : decide ((1073741824 : Int) < (t : Int)) = false := decide_eq_false ht
  have d2 : decide (1073741824 < t) = false := decide_eq_false (by omega)
  rw [if_pos rfl] at hO
  have HOU := Lib.hid hO
  clear hO hl ht
  rw [show ((0 : Nat) : Int) = 0 from rfl] at HD
  go_wp2_with (first | (refine wpList_fresh (by rfl) 77 (by rfl) _ fresh_rleaf ?_; simp only [Act.put, List.setIfInBounds_toArray, List.set_cons_succ, List.set_cons_zero]; try simp only [World.size_alloc]) | (refine wpList_fresh (by rfl) 72 (by rfl) _ fresh_told ?_; simp only [Act.put, List.setIfInBounds_toArray, List.set_cons_succ, List.set_cons_zero]; try simp only [World.size_alloc]) | (go_at_call 92; (with_reducible refine (HO.out _).mono ?_); go_loud (rintro e u1 ⟨rfl, hu1⟩)) | (go_at_call 91; (with_reducible refine (HF.out _).mono ?_); go_loud (rintro e u2 ⟨rfl, hu2⟩; have g0 : w.heap.size + 3 ≤ u2.heap.size := (by have := hu1.size; have := hu2.size; simp only [World.size_alloc] at *; omega); have G0' := (G0.at_ hu1).at_ hu2; have G1' := (G1.at_ hu1).at_ hu2; have G2' := (G2.at_ hu1).at_ hu2; have hB1 := (hB0.trans (hu1.mono hB0.size)).trans (hu2.mono (by have := hB0.size; have := hu1.size; omega)); obtain ⟨c0, l0, a0, b0, hV⟩ := four_new u2 #[.string ⟨s.toArray⟩, .int .i64 (loc1 : Int), .int .i64 (err1 : Int)] (leafC zlab zlab 0).toArray (itemC 0 zlab zlab 0).toArray (itemC 0 zlab zlab 0).toArray 129 77 72 72)) | (refine wpList_build (by rfl) 77 ([]) (by rfl) ([]) (by rfl) (.agg (leafC zlab zlab 0).toArray) (zero_rleaf) ?_; simp only [Act.put, List.setIfInBounds_toArray, List.set_cons_succ, List.set_cons_zero]) | (refine wpList_build (by rfl) 72 ([]) (by rfl) ([]) (by rfl) (.agg (itemC 0 zlab zlab 0).toArray) (zero_ritem) ?_; simp only [Act.put, List.setIfInBounds_toArray, List.set_cons_succ, List.set_cons_zero]) | ((refine wpList_store_blk (by rfl) 77 (.tmp 9) (.tmp 20) (by rfl) (0) ((leafC zlab zlab 0).toArray) (by rfl) (by rfl) (l0) (fL) zL (oL) ?_; simp only [Act.put]); go_loud (intro u3 b3 ob3; rw [sL] at b3; skip)) | ((refine wpList_store_blk (by rfl) 72 (.tmp 10) (.tmp 21) (by rfl) (0) ((itemC 0 zlab zlab 0).toArray) (by rfl) (by rfl) ((a0.only ob3 (by omega))) (fI) zI (oI) ?_; simp only [Act.put]); go_loud (intro u4 b4 ob4; rw [sI] at b4; skip)) | ((refine wpList_store_blk (by rfl) 72 (.tmp 11) (.tmp 22) (by rfl) (0) ((itemC 0 zlab zlab 0).toArray) (by rfl) (by rfl) (((b0.only ob3 (by omega)).only ob4 (by omega))) (fI) zI (oI) ?_; simp only [Act.put]); go_loud (intro u5 b5 ob5; rw [sI] at b5; have D5 := ((c0.only ob3 (by omega)).only ob4 (by omega)).only ob5 (by omega); have L5 := (b3.only ob4 (by omega)).only ob5 (by omega); have A5 := b4.only ob5 (by omega); have hV5 := ob5.below (ob4.below (ob3.below hV (by omega)) (by omega)) (by omega); have R05 := G0'.at_ hV5; have R15 := G1'.at_ hV5; have R25 := G2'.at_ hV5; have hB5 := hB1.trans (hV5.mono (by omega)); obtain ⟨x10, x11, x12, y10, y11, y12⟩ := free3 D5; clear ob3 ob4 ob5 b3 b4 c0 l0 a0 b0 hV hV5)) | (go_at_call 94; (with_reducible refine (HA.out _).mono ?_); go_loud (rintro e u6 ⟨rfl, hu6⟩; have D6 := D5.at_ hu6; have hB6 := hB5.trans (hu6.mono hB5.size); obtain ⟨x20, x21, x22, y20, y21, y22⟩ := free3 D6)) | ((refine wpList_store_blk (by rfl) 77 (.tmp 9) (.tmp 38) (by rfl) (0) ((leafC l v (t : Int)).toArray) (by rfl) (by rfl) ((Blk.only (L5.at_ hu6) (blk3 D6 _ _ _).2 (by omega))) (fV) zV (oV) ?_; simp only [Act.put]); go_loud (intro u7 L7 oL7; rw [sV] at L7; obtain ⟨D7, K7, M7⟩ := cur_item D6 (by omega) oL7; have A7 := K7 _ _ _ (A5.at_ hu6) (by omega) (by omega); have b7 := K7 _ _ _ (b5.at_ hu6) (by omega) (by omega); have R07 := K7 _ _ _ (R05.at_ hu6) (by omega) (by omega); have R17 := K7 _ _ _ (R15.at_ hu6) (by omega) (by omega); have R27 := K7 _ _ _ (R25.at_ hu6) (by omega) (by omega); have hB7 := M7 _ _ (by omega) (by omega) hB6; obtain ⟨x30, x31, x32, y30, y31, y32⟩ := free3 D7)) | (go_at_call 95; (with_reducible refine (HD.out _).mono ?_); go_loud (rintro e u10 ⟨rfl, hu10⟩; have L10 := L7.at_ hu10; have A10 := A7.at_ hu10; have b10 := b7.at_ hu10; have R010 := R07.at_ hu10; have R110 := R17.at_ hu10; have R210 := R27.at_ hu10; have hB10 := hB7.trans (hu10.mono hB7.size); have c64 := L10.cellv at64)))
  clear x10 x11 x12 y10 y11 y12 x20 x21 x22 y20 y21 y22 x30 x31 x32 y30 y31 y32 K7 M7 hB7 hB6 hB5
  apply wp_region_copy 9 rfl [⟨4, w.heap.size, (leafC zlab zlab 0).toArray, (leafC l v (t : Int)).toArray, 77⟩, ⟨5, w.heap.size + 1, (itemC 0 zlab zlab 0).toArray, (itemC 0 zlab zlab 0).toArray, 72⟩, ⟨6, w.heap.size + 1 + 1, (itemC 0 zlab zlab 0).toArray, (itemC 0 zlab zlab 0).toArray, 72⟩] [w.heap.size, w.heap.size + 1, w.heap.size + 1 + 1] [[(9, none)], [(10, none)], [(11, none)], [(8, none)], [(2, none), (60, some 0)], [(3, none), (61, some 1)], [(4, none), (62, some 2)], [(63, some 3)], []] [eqv _, eqv _, eqv _, eqv _, anyv, anyv, anyv, eqv _, eqv _] (by kernel_rfl) (by kernel_rfl)
  case hmono => repeat (first | exact trivial | refine ⟨fun _ _ _ _ h => h, ?_⟩)
  case hlt => exact (List.forall_mem_cons.2 ⟨(show (4 : Nat) < 9 by decide), (List.forall_mem_cons.2 ⟨(show (5 : Nat) < 9 by decide), (List.forall_mem_cons.2 ⟨(show (6 : Nat) < 9 by decide), (fun _ h => nomatch h)⟩)⟩)⟩)
  case h0 => exact (List.forall_mem_cons.2 ⟨R010, (List.forall_mem_cons.2 ⟨R110, (List.forall_mem_cons.2 ⟨R210, (fun _ h => nomatch h)⟩)⟩)⟩)
  case hobs =>
    refine ⟨?_, ?_⟩
    · rintro L a1 w1 hT hP hS ⟨h9, -⟩   -- 0: Op.load 77 t9
      have e9 : a1.tmps.getD 9 undef = _ := h9
      have f9 := getD_form e9
      clear h9
      exact copy_load 77 (.tmp 9) rfl (u2.heap.size + 1) e9 (Blk.drew L10) hT (by intro h; rcases List.mem_cons.1 h with h | h; omega; rcases List.mem_cons.1 h with h | h; omega; rcases List.mem_cons.1 h with h | h; omega; cases h) _ Try.underlying77 (by rfl) zV (copy_val hP (List.forall_mem_cons.2 ⟨(show (4 : Nat) ≠ 0 by decide), (List.forall_mem_cons.2 ⟨(show (5 : Nat) ≠ 0 by decide), (List.forall_mem_cons.2 ⟨(show (6 : Nat) ≠ 0 by decide), (fun _ h => nomatch h)⟩)⟩)⟩) rfl)
    refine ⟨?_, ?_⟩
    · rintro L a1 w1 hT hP hS ⟨h10, -⟩   -- 1: Op.load 72 t10
      have e10 : a1.tmps.getD 10 undef = _ := h10
      have f10 := getD_form e10
      clear h10
      exact copy_load 72 (.tmp 10) rfl (u2.heap.size + 1 + 1) e10 (Blk.drew A10) hT (by intro h; rcases List.mem_cons.1 h with h | h; omega; rcases List.mem_cons.1 h with h | h; omega; rcases List.mem_cons.1 h with h | h; omega; cases h) _ Try.underlying72 (by rfl) zI (copy_val hP (List.forall_mem_cons.2 ⟨(show (4 : Nat) ≠ 1 by decide), (List.forall_mem_cons.2 ⟨(show (5 : Nat) ≠ 1 by decide), (List.forall_mem_cons.2 ⟨(show (6 : Nat) ≠ 1 by decide), (fun _ h => nomatch h)⟩)⟩)⟩) rfl)
    refine ⟨?_, ?_⟩
    · rintro L a1 w1 hT hP hS ⟨h11, -⟩   -- 2: Op.load 72 t11
      have e11 : a1.tmps.getD 11 undef = _ := h11
      have f11 := getD_form e11
      clear h11
      exact copy_load 72 (.tmp 11) rfl (u2.heap.size + 1 + 1 + 1) e11 (Blk.drew b10) hT (by intro h; rcases List.mem_cons.1 h with h | h; omega; rcases List.mem_cons.1 h with h | h; omega; rcases List.mem_cons.1 h with h | h; omega; cases h) _ Try.underlying72 (by rfl) zI (copy_val hP (List.forall_mem_cons.2 ⟨(show (4 : Nat) ≠ 2 by decide), (List.forall_mem_cons.2 ⟨(show (5 : Nat) ≠ 2 by decide), (List.forall_mem_cons.2 ⟨(show (6 : Nat) ≠ 2 by decide), (fun _ h => nomatch h)⟩)⟩)⟩) rfl)
    refine ⟨?_, ?_⟩
    · rintro L a1 w1 hT hP hS ⟨h8, -⟩   -- 3: Op.move t8
      have e8 : a1.tmps.getD 8 undef = _ := h8
      have f8 := getD_form e8
      clear h8
      go_simp; exact copy_val hP (List.forall_mem_cons.2 ⟨(show (4 : Nat) ≠ 3 by decide), (List.forall_mem_cons.2 ⟨(show (5 : Nat) ≠ 3 by decide), (List.forall_mem_cons.2 ⟨(show (6 : Nat) ≠ 3 by decide), (fun _ h => nomatch h)⟩)⟩)⟩) rfl
    refine ⟨?_, ?_⟩
    · rintro L a1 w1 hT hP hS ⟨h2, h60, -⟩   -- 4: Op.store 77 t2 t60
      have e2 : a1.tmps.getD 2 undef = _ := h2
      have f2 := getD_form e2
      have e60 : a1.tmps.getD 60 undef = _ := h60
      have f60 := getD_form e60
      clear h2 h60
      exact copy_store hP ⟨4, w.heap.size, (leafC zlab zlab 0).toArray, (leafC l v (t : Int)).toArray, 77⟩ (List.mem_cons_self ..) rfl (by decide) hS.self (List.mem_cons_self ..) (List.forall_mem_cons.2 ⟨(fun h => absurd rfl h), (List.forall_mem_cons.2 ⟨(fun _ => (show w.heap.size + 1 ≠ w.heap.size by omega)), (List.forall_mem_cons.2 ⟨(fun _ => (show w.heap.size + 1 + 1 ≠ w.heap.size by omega)), (fun _ h => nomatch h)⟩)⟩)⟩) (List.forall_mem_cons.2 ⟨(fun _ => rfl), (List.forall_mem_cons.2 ⟨(fun h => absurd h (show (5 : Nat) ≠ 4 by decide)), (List.forall_mem_cons.2 ⟨(fun h => absurd h (show (6 : Nat) ≠ 4 by decide)), (fun _ h => nomatch h)⟩)⟩)⟩) 77 (.tmp 2) (.tmp 60) rfl e2 e60 qV zV oV
    refine ⟨?_, ?_⟩
    · rintro L a1 w1 hT hP hS ⟨h3, h61, -⟩   -- 5: Op.store 72 t3 t61
      have e3 : a1.tmps.getD 3 undef = _ := h3
      have f3 := getD_form e3
      have e61 : a1.tmps.getD 61 undef = _ := h61
      have f61 := getD_form e61
      clear h3 h61
      exact copy_store hP ⟨5, w.heap.size + 1, (itemC 0 zlab zlab 0).toArray, (itemC 0 zlab zlab 0).toArray, 72⟩ (List.mem_cons_of_mem _ (List.mem_cons_self ..)) rfl (by decide) hS.self (List.mem_cons_of_mem _ (List.mem_cons_self ..)) (List.forall_mem_cons.2 ⟨(fun _ => (show w.heap.size ≠ w.heap.size + 1 by omega)), (List.forall_mem_cons.2 ⟨(fun h => absurd rfl h), (List.forall_mem_cons.2 ⟨(fun _ => (show w.heap.size + 1 + 1 ≠ w.heap.size + 1 by omega)), (fun _ h => nomatch h)⟩)⟩)⟩) (List.forall_mem_cons.2 ⟨(fun h => absurd h (show (4 : Nat) ≠ 5 by decide)), (List.forall_mem_cons.2 ⟨(fun _ => rfl), (List.forall_mem_cons.2 ⟨(fun h => absurd h (show (6 : Nat) ≠ 5 by decide)), (fun _ h => nomatch h)⟩)⟩)⟩) 72 (.tmp 3) (.tmp 61) rfl e3 e61 rfl zI oI
    refine ⟨?_, ?_⟩
    · rintro L a1 w1 hT hP hS ⟨h4, h62, -⟩   -- 6: Op.store 72 t4 t62
      have e4 : a1.tmps.getD 4 undef = _ := h4
      have f4 := getD_form e4
      have e62 : a1.tmps.getD 62 undef = _ := h62
      have f62 := getD_form e62
      clear h4 h62
      exact copy_store hP ⟨6, w.heap.size + 1 + 1, (itemC 0 zlab zlab 0).toArray, (itemC 0 zlab zlab 0).toArray, 72⟩ (List.mem_cons_of_mem _ (List.mem_cons_of_mem _ (List.mem_cons_self ..))) rfl (by decide) hS.self (List.mem_cons_of_mem _ (List.mem_cons_of_mem _ (List.mem_cons_self ..))) (List.forall_mem_cons.2 ⟨(fun _ => (show w.heap.size ≠ w.heap.size + 1 + 1 by omega)), (List.forall_mem_cons.2 ⟨(fun _ => (show w.heap.size + 1 ≠ w.heap.size + 1 + 1 by omega)), (List.forall_mem_cons.2 ⟨(fun h => absurd rfl h), (fun _ h => nomatch h)⟩)⟩)⟩) (List.forall_mem_cons.2 ⟨(fun h => absurd h (show (4 : Nat) ≠ 6 by decide)), (List.forall_mem_cons.2 ⟨(fun h => absurd h (show (5 : Nat) ≠ 6 by decide)), (List.forall_mem_cons.2 ⟨(fun _ => rfl), (fun _ h => nomatch h)⟩)⟩)⟩) 72 (.tmp 4) (.tmp 62) rfl e4 e62 rfl zI oI
    refine ⟨?_, ?_⟩
    · rintro L a1 w1 hT hP hS ⟨h63, -⟩   -- 7: Op.assign t63
      have e63 : a1.tmps.getD 63 undef = _ := h63
      have f63 := getD_form e63
      clear h63
      go_simp; exact copy_val hP (List.forall_mem_cons.2 ⟨(show (4 : Nat) ≠ 7 by decide), (List.forall_mem_cons.2 ⟨(show (5 : Nat) ≠ 7 by decide), (List.forall_mem_cons.2 ⟨(show (6 : Nat) ≠ 7 by decide), (fun _ h => nomatch h)⟩)⟩)⟩) rfl
    refine ⟨?_, ?_⟩
    · rintro L a1 w1 hT hP hS -   -- 8: Op.assign (const (0:i64))
      go_simp; exact copy_val hP (List.forall_mem_cons.2 ⟨(show (4 : Nat) ≠ 8 by decide), (List.forall_mem_cons.2 ⟨(show (5 : Nat) ≠ 8 by decide), (List.forall_mem_cons.2 ⟨(show (6 : Nat) ≠ 8 by decide), (fun _ h => nomatch h)⟩)⟩)⟩) rfl
    trivial
  case hend =>
    intro w2 hK hst
    have b2 := hst _ (List.mem_cons_self ..)
    have b3 := hst _ (List.mem_cons_of_mem _ (List.mem_cons_self ..))
    have b4 := hst _ (List.mem_cons_of_mem _ (List.mem_cons_of_mem _ (List.mem_cons_self ..)))
    rintro _ rfl _ rfl _ rfl _ rfl _ rfl _ rfl
    simp only [relEnd, Act.put, List.setIfInBounds_toArray, List.set_cons_succ, List.set_cons_zero]
    have hBz := hK.below hB10 (by intro g hg; rcases List.mem_cons.1 hg with h | h; omega; rcases List.mem_cons.1 h with h | h; omega; rcases List.mem_cons.1 h with h | h; omega; cases h)
    go_wp2
    exact bodyPost_ret (v := .tuple #[.agg (leafC l v (t : Int)).toArray, .agg (itemC 0 zlab zlab 0).toArray, .agg (itemC 0 zlab zlab 0).toArray, .bool false, .int .i64 0]) (results_5 (by rfl) _ b2 b3 b4 _ _ _ _ _ (by rfl) (by rfl) (by rfl) (by rfl) (by rfl) Try.underlying77 (by rfl) zV Try.underlying72 (by rfl) zI Try.underlying72 (by rfl) zI) rfl ⟨by rw [HOU.out], hBz⟩
end Go.Proofs.Ytgjmnhbkdccgpaa

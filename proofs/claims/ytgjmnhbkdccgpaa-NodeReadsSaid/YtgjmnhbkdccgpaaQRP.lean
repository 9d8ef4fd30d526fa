/- Texts merged. -/
import Derived.Test.YtgjmnhbkdccgpaaQRO
import Derived.Test.YtgjmnhbkdccgpaaOpenN

/- From NReadsD. -/
namespace Go.Proofs.Ytgjmnhbkdccgpaa
open Go.RowKit

set_option maxRecDepth 100000 in
set_option maxHeartbeats 4000000 in
theorem nreads_inner (s0 : List UInt8) (hE : D.rdErr (s0.take 400) = 0) (a b : Nat × List UInt8 × List UInt8 × Nat) (hN : (D.rnode (s0.take 400)).1 = .inner a b) (l1 : a.2.1.length = 32) (l2 : a.2.2.1.length = 32) (l3 : b.2.1.length = 32) (l4 : b.2.2.1.length = 32) (m1 : a.1 < 9223372036854775808) (m2 : a.2.2.2 < 9223372036854775808) (m3 : b.1 < 9223372036854775808) (m4 : b.2.2.2 < 9223372036854775808) (w : World) :
    Calls Try.prog 16 #[.string ⟨s0.toArray⟩] w fun e w' => e = .returned (.bool true) ∧ Below w.heap.size w w' := by
  have HC := Lib.hid (fun W => lcut_to s0 400 (z := 400) rfl W)
  have hl : (s0.take 400).length ≤ 65536 := by rw [List.length_take]; omega
  generalize s0.take 400 = s at *
  have hO : D.rdOut s = .tuple #[.agg (leafC zlab zlab 0).toArray, .agg (itemC (a.1 : Int) a.2.1 a.2.2.1 (a.2.2.2 : Int)).toArray, .agg (itemC (b.1 : Int) b.2.1 b.2.2.1 (b.2.2.2 : Int)).toArray, .bool true, .int .i64 0] := by unfold D.rdOut; rw [if_pos hE, hN]; rfl
  have hV : D.rdVal s = .iface 69 (.agg (innerC (a.1 : Int) a.2.1 a.2.2.1 (a.2.2.2 : Int) (b.1 : Int) b.2.1 b.2.2.1 (b.2.2.2 : Int)).toArray) := by unfold D.rdVal; rw [if_pos hE, hN]; rfl
  have NR := Lib.hid (fun W => nodeRead_any s hl W)
  have DR := Lib.hid (fun W => readD_any s hl W)
  rw [hO] at DR
  rw [hV, hE] at NR
  have e1 : ((0 : Int) != 0) = false := rfl
  have AW := Lib.hid (fun W => nawake_any W)
  have AL := Lib.hid (fun W => asLeaf_inner (.agg (innerC (a.1 : Int) a.2.1 a.2.2.1 (a.2.2.2 : Int) (b.1 : Int) b.2.1 b.2.2.1 (b.2.2.2 : Int)).toArray) W)
  have AI := Lib.hid (fun W => asInner_inner (a.1 : Int) a.2.1 a.2.2.1 (a.2.2.2 : Int) (b.1 : Int) b.2.1 b.2.2.1 (b.2.2.2 : Int) l1 l2 l3 l4 W)
  have zL := leaf_sz zlab zlab 0 rfl rfl
  have zI := item_sz 0 zlab zlab 0 rfl rfl
  have fL : 0 + (leafC zlab zlab 0).toArray.size ≤ (leafC zlab zlab 0).toArray.size := by omega
  have fI : 0 + (itemC 0 zlab zlab 0).toArray.size ≤ (itemC 0 zlab zlab 0).toArray.size := by omega
  have fN : 0 + (innerC 0 zlab zlab 0 0 zlab zlab 0).toArray.size ≤ (innerC 0 zlab zlab 0 0 zlab zlab 0).toArray.size := by omega
  have oL := leafC_one2 zlab zlab 0
  have oI := itemC_one 0 zlab zlab 0
  have oN := innerC_one 0 zlab zlab 0 0 zlab zlab 0
  have sL := splice_all (leafC zlab zlab 0).toArray (leafC zlab zlab 0).toArray rfl
  have sI := splice_all (itemC 0 zlab zlab 0).toArray (itemC 0 zlab zlab 0).toArray rfl
  have sN := splice_all (innerC 0 zlab zlab 0 0 zlab zlab 0).toArray (innerC 0 zlab zlab 0 0 zlab zlab 0).toArray rfl
  have zL6 : (Try.prog.info? 61).map (·.size) = some (leafC zlab zlab 0).toArray.size := by kernel_rfl
  have zN : (Try.prog.info? 69).map (·.size) = some (innerC 0 zlab zlab 0 0 zlab zlab 0).toArray.size := by kernel_rfl
  have zA := item_sz (a.1 : Int) a.2.1 a.2.2.1 (a.2.2.2 : Int) l1 l2
  have zB := item_sz (b.1 : Int) b.2.1 b.2.2.1 (b.2.2.2 : Int) l3 l4
  have qA := item_fit (a.1 : Int) a.2.1 a.2.2.1 (a.2.2.2 : Int) 0 zlab zlab 0 l1 l2 rfl rfl
  have qB := item_fit (b.1 : Int) b.2.1 b.2.2.1 (b.2.2.2 : Int) 0 zlab zlab 0 l3 l4 rfl rfl
  have fA : 0 + (itemC (a.1 : Int) a.2.1 a.2.2.1 (a.2.2.2 : Int)).toArray.size ≤ (itemC 0 zlab zlab 0).toArray.size := by omega
  have fB : 0 + (itemC (b.1 : Int) b.2.1 b.2.2.1 (b.2.2.2 : Int)).toArray.size ≤ (itemC 0 zlab zlab 0).toArray.size := by omega
  have oA := itemC_one (a.1 : Int) a.2.1 a.2.2.1 (a.2.2.2 : Int)
  have oB := itemC_one (b.1 : Int) b.2.1 b.2.2.1 (b.2.2.2 : Int)
  have sA := splice_all (itemC 0 zlab zlab 0).toArray (itemC (a.1 : Int) a.2.1 a.2.2.1 (a.2.2.2 : Int)).toArray qA.symm
  have sB := splice_all (itemC 0 zlab zlab 0).toArray (itemC (b.1 : Int) b.2.1 b.2.2.1 (b.2.2.2 : Int)).toArray qB.symm
  have iN := innerC_size (a.1 : Int) a.2.1 a.2.2.1 (a.2.2.2 : Int) (b.1 : Int) b.2.1 b.2.2.1 (b.2.2.2 : Int) l1 l2 l3 l4
  have iZ := innerC_size 0 zlab zlab 0 0 zlab zlab 0 rfl rfl rfl rfl
  have zI6 : (Try.prog.info? 69).map (·.size) = some (innerC (a.1 : Int) a.2.1 a.2.2.1 (a.2.2.2 : Int) (b.1 : Int) b.2.1 b.2.2.1 (b.2.2.2 : Int)).toArray.size := by rw [iN]; exact info_inner
  have fI6 : 0 + (innerC (a.1 : Int) a.2.1 a.2.2.1 (a.2.2.2 : Int) (b.1 : Int) b.2.1 b.2.2.1 (b.2.2.2 : Int)).toArray.size ≤ (innerC 0 zlab zlab 0 0 zlab zlab 0).toArray.size := by omega
  have oI6 := innerC_one (a.1 : Int) a.2.1 a.2.2.1 (a.2.2.2 : Int) (b.1 : Int) b.2.1 b.2.2.1 (b.2.2.2 : Int)
  have sI6 := splice_all (innerC 0 zlab zlab 0 0 zlab zlab 0).toArray (innerC (a.1 : Int) a.2.1 a.2.2.1 (a.2.2.2 : Int) (b.1 : Int) b.2.1 b.2.2.1 (b.2.2.2 : Int)).toArray (by omega)
  have lA := itemC_length (a.1 : Int) a.2.1 a.2.2.1 (a.2.2.2 : Int) l1 l2
  have lB := itemC_length (b.1 : Int) b.2.1 b.2.2.1 (b.2.2.2 : Int) l3 l4
  have zA5 : (Try.prog.info? 65).map (·.size) = some (itemC (a.1 : Int) a.2.1 a.2.2.1 (a.2.2.2 : Int)).length := by rw [lA]; exact info_item
  have zB5 : (Try.prog.info? 65).map (·.size) = some (itemC (b.1 : Int) b.2.1 b.2.2.1 (b.2.2.2 : Int)).length := by rw [lB]; exact info_item
  have zA7 : (Try.prog.info? 72).map (·.size) = some (itemC (a.1 : Int) a.2.1 a.2.2.1 (a.2.2.2 : Int)).length := by rw [lA]; exact info_ritem
  have zB7 : (Try.prog.info? 72).map (·.size) = some (itemC (b.1 : Int) b.2.1 b.2.2.1 (b.2.2.2 : Int)).length := by rw [lB]; exact info_ritem
  have TA := Lib.hid (fun W => told_any (a.1 : Int) a.2.1 a.2.2.1 (a.2.2.2 : Int) l1 l2 W)
  have TB := Lib.hid (fun W => told_any (b.1 : Int) b.2.1 b.2.2.1 (b.2.2.2 : Int) l3 l4 W)
  have EA := Lib.hid (fun W => (eql72 (a.1 : Int) a.2.1 a.2.2.1 (a.2.2.2 : Int) (a.1 : Int) a.2.1 a.2.2.1 (a.2.2.2 : Int) (wf_nat m1) l1 l2 (wf_nat m2) (wf_nat m1) l1 l2 (wf_nat m2) W).trans (by rw [show D.eqItem (a.1 : Int) a.2.1 a.2.2.1 (a.2.2.2 : Int) (a.1 : Int) a.2.1 a.2.2.1 (a.2.2.2 : Int) = true by simp [D.eqItem]]))
  have EB := Lib.hid (fun W => (eql72 (b.1 : Int) b.2.1 b.2.2.1 (b.2.2.2 : Int) (b.1 : Int) b.2.1 b.2.2.1 (b.2.2.2 : Int) (wf_nat m3) l3 l4 (wf_nat m4) (wf_nat m3) l3 l4 (wf_nat m4) W).trans (by rw [show D.eqItem (b.1 : Int) b.2.1 b.2.2.1 (b.2.2.2 : Int) (b.1 : Int) b.2.1 b.2.2.1 (b.2.2.2 : Int) = true by simp [D.eqItem]]))
  clear hO hV hE hl
  go_enter Try.func16, Try.ntmps16
  go_wp2_with (first | (refine wpList_fresh (by rfl) 77 (by rfl) _ fresh_rleaf ?_; simp only [Act.put, List.setIfInBounds_toArray, List.set_cons_succ, List.set_cons_zero]; try simp only [World.size_alloc]) | (refine wpList_fresh (by rfl) 72 (by rfl) _ fresh_told ?_; simp only [Act.put, List.setIfInBounds_toArray, List.set_cons_succ, List.set_cons_zero]; try simp only [World.size_alloc]) | (refine wpList_fresh (by rfl) 61 (by rfl) _ fresh_leaf ?_; simp only [Act.put, List.setIfInBounds_toArray, List.set_cons_succ, List.set_cons_zero]; try simp only [World.size_alloc]) | (refine wpList_fresh (by rfl) 69 (by rfl) _ fresh_inner ?_; simp only [Act.put, List.setIfInBounds_toArray, List.set_cons_succ, List.set_cons_zero]; try simp only [World.size_alloc]) | (go_at_call 18; (with_reducible refine (HC.out _).mono ?_); go_loud (rintro e u0 ⟨rfl, rfl⟩)) | (go_at_call 54; (with_reducible refine (NR.out _).mono ?_); go_loud (rintro e u1 ⟨rfl, hu1⟩)) | (go_at_call 55; (with_reducible refine (DR.out _).mono ?_); go_loud (rintro e u2 ⟨rfl, hu2⟩; obtain ⟨l0, a0, b0, hV⟩ := three_new u2 (leafC zlab zlab 0).toArray (itemC 0 zlab zlab 0).toArray (itemC 0 zlab zlab 0).toArray 77 72 72)) | ((refine wpList_store_blk (by rfl) 77 (.tmp 5) (.tmp 24) (by rfl) (0) ((leafC zlab zlab 0).toArray) (by rfl) (by rfl) (l0) (fL) zL (oL) ?_; simp only [Act.put]); go_loud (intro u3 l1 ol1)) | ((refine wpList_store_blk (by rfl) 72 (.tmp 6) (.tmp 25) (by rfl) (0) ((itemC (a.1 : Int) a.2.1 a.2.2.1 (a.2.2.2 : Int)).toArray) (by rfl) (by rfl) ((a0.only ol1 (by omega))) (fA) zA (oA) ?_; simp only [Act.put]); go_loud (intro u4 ka oa1; rw [sA] at ka)) | ((refine wpList_store_blk (by rfl) 72 (.tmp 7) (.tmp 26) (by rfl) (0) ((itemC (b.1 : Int) b.2.1 b.2.2.1 (b.2.2.2 : Int)).toArray) (by rfl) (by rfl) (((b0.only ol1 (by omega)).only oa1 (by omega))) (fB) zB (oB) ?_; simp only [Act.put]); go_loud (intro u5 kb ob1; rw [sB] at kb; replace ka := ka.only ob1 (by omega); have hB5 := (hu1.trans (hu2.mono hu1.size)).trans ((ob1.below (oa1.below (ol1.below hV (by omega)) (by omega)) (by omega)).mono (by have := hu1.size; have := hu2.size; omega)))) | (go_at_call 47; (with_reducible refine (AW.out _).mono ?_); go_loud (rintro e u6 ⟨rfl, hu6⟩)) | (go_at_call 56; (with_reducible refine (AL.out _).mono ?_); go_loud (rintro e u7 ⟨rfl, hu7⟩)) | ((refine wpList_store_blk (by rfl) 61 (.tmp 10) (.tmp 39) (by rfl) (0) ((leafC zlab zlab 0).toArray) (by rfl) (by rfl) ((Blk.new _ _ _)) (fL) zL6 (oL) ?_; simp only [Act.put]); go_loud (intro u8 l8 o8; rw [sL] at l8; have ka8 := (((ka.at_ hu6).at_ hu7).alloc (.cells (leafC zlab zlab 0).toArray 61)).only o8 (by have := ka.lt; have := hu6.size; have := hu7.size; omega); have kb8 := (((kb.at_ hu6).at_ hu7).alloc (.cells (leafC zlab zlab 0).toArray 61)).only o8 (by have := kb.lt; have := hu6.size; have := hu7.size; omega); have hB8 := ((hB5.trans (hu6.mono hB5.size)).trans (hu7.mono (by have := hB5.size; have := hu6.size; omega))).trans ((o8.below (below_alloc1 u7 _) (Nat.le_refl _)).mono (by have := hB5.size; have := hu6.size; have := hu7.size; omega)))) | (go_at_call 57; (with_reducible refine (AI.out _).mono ?_); go_loud (rintro e u9 ⟨rfl, hu9⟩)) | ((refine wpList_store_blk (by rfl) 69 (.tmp 12) (.tmp 44) (by rfl) (0) ((innerC (a.1 : Int) a.2.1 a.2.2.1 (a.2.2.2 : Int) (b.1 : Int) b.2.1 b.2.2.1 (b.2.2.2 : Int)).toArray) (by rfl) (by rfl) ((Blk.new _ _ _)) (fI6) zI6 (oI6) ?_; simp only [Act.put]); go_loud (intro u10 n10 o10; rw [sI6] at n10; have hB10 := (hB8.trans (hu9.mono hB8.size)).trans ((o10.below (below_alloc1 u9 _) (Nat.le_refl _)).mono (by have := hB8.size; have := hu9.size; omega)); have ka10 := ((ka8.at_ hu9).alloc (.cells (innerC 0 zlab zlab 0 0 zlab zlab 0).toArray 69)).only o10 (by have := ka8.lt; have := hu9.size; omega); have kb10 := ((kb8.at_ hu9).alloc (.cells (innerC 0 zlab zlab 0 0 zlab zlab 0).toArray 69)).only o10 (by have := kb8.lt; have := hu9.size; omega); have l10 := ((l8.at_ hu9).alloc (.cells (innerC 0 zlab zlab 0 0 zlab zlab 0).toArray 69)).only o10 (by have := l8.lt; have := hu9.size; omega))))
  have hlt : u9.heap.size < u10.drew.heap.size := n10.lt
  have r1 : u10.drew.rangeAt u9.heap.size 0 (itemC (a.1 : Int) a.2.1 a.2.2.1 (a.2.2.2 : Int)) := blk_rangeL (o := 0) n10.drew (fun j u h => by rw [Nat.zero_add]; unfold innerC; rw [List.getElem?_append_left (List.getElem?_eq_some_iff.1 h).1]; exact h)
  have r2 : u10.drew.rangeAt u9.heap.size 66 (itemC (b.1 : Int) b.2.1 b.2.2.1 (b.2.2.2 : Int)) := blk_rangeL (o := 66) n10.drew (fun j u h => by unfold innerC; rw [List.getElem?_append_right (by omega), lA, show 66 + j - 66 = j by omega]; exact h)
  apply wp_region_rel_below_tail 19 [[(11, none)], [(65, some 0)], [(66, some 1)], [(13, none), (67, some 2)], [(67, some 2), (68, some 3)], [(69, some 4)], [(12, none), (70, some 5)], [(71, some 6), (70, some 5)], [(72, some 7), (70, some 5)], [(6, none), (70, some 5)], [(73, some 8), (74, some 9), (70, some 5)], [(70, some 5), (75, some 10)], [(76, some 11)], [(12, none), (77, some 12)], [(78, some 13), (77, some 12)], [(79, some 14), (77, some 12)], [(7, none), (77, some 12)], [(80, some 15), (81, some 16), (77, some 12)], [(77, some 12), (82, some 17)]] [eqv _, eqv _, eqv _, eqv _, eqv _, eqv _, eqv _, eqv _, eqv _, eqv _, eqv _, eqv _, eqv _, eqv _, eqv _, eqv _, eqv _, eqv _, eqv _] (by kernel_rfl) (by kernel_rfl)
  case hobs =>
    refine ⟨?_, ?_⟩
    · rintro L a1 w1 hT - - ⟨h11, -⟩   -- 0: Op.move t11
      have e11 : a1.tmps.getD 11 undef = _ := h11
      have f11 := getD_form e11
      clear h11
      go_simp; exact left_intro rfl (Stp.refl _) trivial
    refine ⟨?_, ?_⟩
    · rintro L a1 w1 hT - - ⟨h65, -⟩   -- 1: Op.unOp UnOp.not 4 t65
      have e65 : a1.tmps.getD 65 undef = _ := h65
      have f65 := getD_form e65
      clear h65
      go_simp; exact left_intro rfl (Stp.refl _) trivial
    refine ⟨?_, ?_⟩
    · rintro L a1 w1 hT - - ⟨h66, -⟩   -- 2: Op.move t66
      have e66 : a1.tmps.getD 66 undef = _ := h66
      have f66 := getD_form e66
      clear h66
      go_simp; exact left_intro rfl (Stp.refl _) trivial
    refine ⟨?_, ?_⟩
    · rintro L a1 w1 hT - - ⟨h13, h67, -⟩   -- 3: Op.move t13
      have e13 : a1.tmps.getD 13 undef = _ := h13
      have f13 := getD_form e13
      have e67 : a1.tmps.getD 67 undef = _ := h67
      have f67 := getD_form e67
      clear h13 h67
      refine ⟨true, 67, by rfl, e67, ?_⟩; rw [if_pos rfl]
      go_simp; exact left_intro rfl (Stp.refl _) trivial
    refine ⟨?_, ?_⟩
    · rintro L a1 w1 hT - - ⟨h67, h68, -⟩   -- 4: Op.pick t67 t68 (const (Value.bool false))
      have e67 : a1.tmps.getD 67 undef = _ := h67
      have f67 := getD_form e67
      have e68 : a1.tmps.getD 68 undef = _ := h68
      have f68 := getD_form e68
      clear h67 h68
      go_simp; exact left_intro rfl (Stp.refl _) trivial
    refine ⟨?_, ?_⟩
    · rintro L a1 w1 hT - - ⟨h69, -⟩   -- 5: Op.move t69
      have e69 : a1.tmps.getD 69 undef = _ := h69
      have f69 := getD_form e69
      clear h69
      go_simp; exact left_intro rfl (Stp.refl _) trivial
    refine ⟨?_, ?_⟩
    · rintro L a1 w1 hT - - ⟨h12, h70, -⟩   -- 6: Op.fieldAddr 69 t12 0
      have e12 : a1.tmps.getD 12 undef = _ := h12
      have f12 := getD_form e12
      have e70 : a1.tmps.getD 70 undef = _ := h70
      have f70 := getD_form e70
      clear h12 h70
      refine ⟨true, 70, by rfl, e70, ?_⟩; rw [if_pos rfl]
      go_simp; exact left_intro rfl (Stp.refl _) trivial
    refine ⟨?_, ?_⟩
    · rintro L a1 w1 hT - - ⟨h71, h70, -⟩   -- 7: Op.load 65 t71
      have e71 : a1.tmps.getD 71 undef = _ := h71
      have f71 := getD_form e71
      have e70 : a1.tmps.getD 70 undef = _ := h70
      have f70 := getD_form e70
      clear h71 h70
      refine ⟨true, 70, by rfl, e70, ?_⟩; rw [if_pos rfl]
      exact wp_load_mid 65 (.tmp 71) rfl u9.heap.size 0 e71 (itemC (a.1 : Int) a.2.1 a.2.2.1 (a.2.2.2 : Int)) _ (range_stp r1 hlt hT) Try.underlying65 (by rfl) zA5 (left_intro rfl (Stp.refl _) trivial)
    refine ⟨?_, ?_⟩
    · rintro L a1 w1 hT - - ⟨h72, h70, -⟩   -- 8: Op.call { value (Operand.func 46), args := #[t72], argTypes := #[65] }
      have e72 : a1.tmps.getD 72 undef = _ := h72
      have f72 := getD_form e72
      have e70 : a1.tmps.getD 70 undef = _ := h70
      have f70 := getD_form e70
      clear h72 h70
      refine ⟨true, 70, by rfl, e70, ?_⟩; rw [if_pos rfl]
      go_simp; go_at_call 46; (with_reducible refine (TA.out _).mono ?_); rintro e w2 ⟨rfl, hb⟩; exact left_intro rfl (Stp.of hb) trivial
    refine ⟨?_, ?_⟩
    · rintro L a1 w1 hT - - ⟨h6, h70, -⟩   -- 9: Op.load 72 t6
      have e6 : a1.tmps.getD 6 undef = _ := h6
      have f6 := getD_form e6
      have e70 : a1.tmps.getD 70 undef = _ := h70
      have f70 := getD_form e70
      clear h6 h70
      refine ⟨true, 70, by rfl, e70, ?_⟩; rw [if_pos rfl]
      exact wp_load_mid 72 (.tmp 6) rfl _ 0 e6 (itemC (a.1 : Int) a.2.1 a.2.2.1 (a.2.2.2 : Int)) _ (blk_rangeL (o := 0) (ka10.drew.at_ hT) (fun j u h => by rw [Nat.zero_add]; exact h)) Try.underlying72 (by rfl) zA7 (left_intro rfl (Stp.refl _) trivial)
    refine ⟨?_, ?_⟩
    · rintro L a1 w1 hT - - ⟨h73, h74, h70, -⟩   -- 10: Op.binOp BinOp.eql 72 t73 t74 72
      have e73 : a1.tmps.getD 73 undef = _ := h73
      have f73 := getD_form e73
      have e74 : a1.tmps.getD 74 undef = _ := h74
      have f74 := getD_form e74
      have e70 : a1.tmps.getD 70 undef = _ := h70
      have f70 := getD_form e70
      clear h73 h74 h70
      refine ⟨true, 70, by rfl, e70, ?_⟩; rw [if_pos rfl]
      exact wp_bin .eql 72 72 (.tmp 73) (.tmp 74) rfl _ _ e73 e74 guard72 _ (EA.out _) (left_intro rfl (Stp.refl _) trivial)
    refine ⟨?_, ?_⟩
    · rintro L a1 w1 hT - - ⟨h70, h75, -⟩   -- 11: Op.pick t70 t75 (const (Value.bool false))
      have e70 : a1.tmps.getD 70 undef = _ := h70
      have f70 := getD_form e70
      have e75 : a1.tmps.getD 75 undef = _ := h75
      have f75 := getD_form e75
      clear h70 h75
      go_simp; exact left_intro rfl (Stp.refl _) trivial
    refine ⟨?_, ?_⟩
    · rintro L a1 w1 hT - - ⟨h76, -⟩   -- 12: Op.move t76
      have e76 : a1.tmps.getD 76 undef = _ := h76
      have f76 := getD_form e76
      clear h76
      go_simp; exact left_intro rfl (Stp.refl _) trivial
    refine ⟨?_, ?_⟩
    · rintro L a1 w1 hT - - ⟨h12, h77, -⟩   -- 13: Op.fieldAddr 69 t12 1
      have e12 : a1.tmps.getD 12 undef = _ := h12
      have f12 := getD_form e12
      have e77 : a1.tmps.getD 77 undef = _ := h77
      have f77 := getD_form e77
      clear h12 h77
      refine ⟨true, 77, by rfl, e77, ?_⟩; rw [if_pos rfl]
      go_simp; exact left_intro rfl (Stp.refl _) trivial
    refine ⟨?_, ?_⟩
    · rintro L a1 w1 hT - - ⟨h78, h77, -⟩   -- 14: Op.load 65 t78
      have e78 : a1.tmps.getD 78 undef = _ := h78
      have f78 := getD_form e78
      have e77 : a1.tmps.getD 77 undef = _ := h77
      have f77 := getD_form e77
      clear h78 h77
      refine ⟨true, 77, by rfl, e77, ?_⟩; rw [if_pos rfl]
      exact wp_load_mid 65 (.tmp 78) rfl u9.heap.size 66 e78 (itemC (b.1 : Int) b.2.1 b.2.2.1 (b.2.2.2 : Int)) _ (range_stp r2 hlt hT) Try.underlying65 (by rfl) zB5 (left_intro rfl (Stp.refl _) trivial)
    refine ⟨?_, ?_⟩
    · rintro L a1 w1 hT - - ⟨h79, h77, -⟩   -- 15: Op.call { value (Operand.func 46), args := #[t79], argTypes := #[65] }
      have e79 : a1.tmps.getD 79 undef = _ := h79
      have f79 := getD_form e79
      have e77 : a1.tmps.getD 77 undef = _ := h77
      have f77 := getD_form e77
      clear h79 h77
      refine ⟨true, 77, by rfl, e77, ?_⟩; rw [if_pos rfl]
      go_simp; go_at_call 46; (with_reducible refine (TB.out _).mono ?_); rintro e w2 ⟨rfl, hb⟩; exact left_intro rfl (Stp.of hb) trivial
    refine ⟨?_, ?_⟩
    · rintro L a1 w1 hT - - ⟨h7, h77, -⟩   -- 16: Op.load 72 t7
      have e7 : a1.tmps.getD 7 undef = _ := h7
      have f7 := getD_form e7
      have e77 : a1.tmps.getD 77 undef = _ := h77
      have f77 := getD_form e77
      clear h7 h77
      refine ⟨true, 77, by rfl, e77, ?_⟩; rw [if_pos rfl]
      exact wp_load_mid 72 (.tmp 7) rfl _ 0 e7 (itemC (b.1 : Int) b.2.1 b.2.2.1 (b.2.2.2 : Int)) _ (blk_rangeL (o := 0) (kb10.drew.at_ hT) (fun j u h => by rw [Nat.zero_add]; exact h)) Try.underlying72 (by rfl) zB7 (left_intro rfl (Stp.refl _) trivial)
    refine ⟨?_, ?_⟩
    · rintro L a1 w1 hT - - ⟨h80, h81, h77, -⟩   -- 17: Op.binOp BinOp.eql 72 t80 t81 72
      have e80 : a1.tmps.getD 80 undef = _ := h80
      have f80 := getD_form e80
      have e81 : a1.tmps.getD 81 undef = _ := h81
      have f81 := getD_form e81
      have e77 : a1.tmps.getD 77 undef = _ := h77
      have f77 := getD_form e77
      clear h80 h81 h77
      refine ⟨true, 77, by rfl, e77, ?_⟩; rw [if_pos rfl]
      exact wp_bin .eql 72 72 (.tmp 80) (.tmp 81) rfl _ _ e80 e81 guard72 _ (EB.out _) (left_intro rfl (Stp.refl _) trivial)
    refine ⟨?_, ?_⟩
    · rintro L a1 w1 hT - - ⟨h77, h82, -⟩   -- 18: Op.pick t77 t82 (const (Value.bool false))
      have e77 : a1.tmps.getD 77 undef = _ := h77
      have f77 := getD_form e77
      have e82 : a1.tmps.getD 82 undef = _ := h82
      have f82 := getD_form e82
      clear h77 h82
      go_simp; exact left_intro rfl (Stp.refl _) trivial
    trivial
  case hmono => repeat (first | exact trivial | refine ⟨fun _ _ _ _ h => h, ?_⟩)
  case hend =>
    intro w2 hT
    rintro _ rfl _ rfl _ rfl _ rfl _ rfl _ rfl _ rfl _ rfl _ rfl _ rfl _ rfl _ rfl _ rfl _ rfl _ rfl _ rfl _ rfl _ rfl _ rfl
    change wpList _ _ _ _ _ _
    simp only [Act.put, List.setIfInBounds_toArray, List.set_cons_succ, List.set_cons_zero, List.drop_succ_cons, List.drop_zero]
    have hBz := hB10.trans (Below.mono hT hB10.size)
    go_wp2
    go_ret
    exact ⟨rfl, hBz⟩
end Go.Proofs.Ytgjmnhbkdccgpaa

/- From NReadsE. -/
namespace Go.Proofs.Ytgjmnhbkdccgpaa
open Go.ChangeShapes Go.WideShapes Go.ChangeAt Go.RowKit

section
variable {H : Type} {enc : TypeId × Value → H} {W : World} {base : Nat} {sp : Nat → Bool} {held : Bool} {v : Value} {d : DataW H} {p : List MemPlace}
set_option maxRecDepth 1000000 in
theorem open_textN (hval : Value.okWide Try.prog W .any base 9 v) (h : DataW.Trod enc Try.prog W 0 sp held 9 v d p) : ∃ l : List UInt8, v = .string ⟨l.toArray⟩ ∧ l.length ≤ 9223372036854775807 := by
  obtain ⟨s, rfl, _, _, hs⟩ := Go.ChangeMaps.open_string Try.underlying9 hval h
  refine ⟨s.data.toList, rfl, ?_⟩
  rw [Array.length_toList]
  unfold maxLen at hs
  exact hs
end
namespace D
def Nd.ok : Nd → Prop
  | .leaf l v t => l.length = 32 ∧ v.length = 32 ∧ t < 9223372036854775808
  | .inner a b => (a.1 < 9223372036854775808 ∧ a.2.1.length = 32 ∧ a.2.2.1.length = 32 ∧ a.2.2.2 < 9223372036854775808) ∧ (b.1 < 9223372036854775808 ∧ b.2.1.length = 32 ∧ b.2.2.1.length = 32 ∧ b.2.2.2 < 9223372036854775808)
theorem ritem_ok (s : List UInt8) (r : Rd) : (ritem s r).1.1 < 9223372036854775808 ∧ (ritem s r).1.2.1.length = 32 ∧ (ritem s r).1.2.2.1.length = 32 ∧ (ritem s r).1.2.2.2 < 9223372036854775808 :=
  ⟨number_lt _ _, label_len _ _, label_len _ _, number_lt _ _⟩
theorem rleaf_ok (s : List UInt8) (r : Rd) : (rleaf s r).1.1.length = 32 ∧ (rleaf s r).1.2.1.length = 32 ∧ (rleaf s r).1.2.2 < 9223372036854775808 := ⟨label_len _ _, label_len _ _, number_lt _ _⟩
theorem rnode_ok (s : List UInt8) : (rnode s).1.ok := by
  have hR : rnode s = if (flag s ⟨0, 0⟩).1 = true then (.inner (ritem s (flag s ⟨0, 0⟩).2).1 (ritem s (ritem s (flag s ⟨0, 0⟩).2).2).1, (ritem s (ritem s (flag s ⟨0, 0⟩).2).2).2)
    else (.leaf (rleaf s (flag s ⟨0, 0⟩).2).1.1 (rleaf s (flag s ⟨0, 0⟩).2).1.2.1 (rleaf s (flag s ⟨0, 0⟩).2).1.2.2, (rleaf s (flag s ⟨0, 0⟩).2).2) := rfl
  have a1 := ritem_ok s (flag s ⟨0, 0⟩).2
  have a2 := ritem_ok s (ritem s (flag s ⟨0, 0⟩).2).2
  have a3 := rleaf_ok s (flag s ⟨0, 0⟩).2
  generalize rnode s = N at *
  generalize ritem s (ritem s (flag s ⟨0, 0⟩).2).2 = Y at *
  generalize ritem s (flag s ⟨0, 0⟩).2 = X at *
  generalize rleaf s (flag s ⟨0, 0⟩).2 = Z at *
  generalize (flag s ⟨0, 0⟩).1 = f at *
  cases f with
  | true => rw [if_pos rfl] at hR; subst hR; exact ⟨a1, a2⟩
  | false => rw [if_neg (by simp)] at hR; subst hR; exact a3
end D
theorem nreads_walk (s0 : List UInt8) (w : World) :
    Calls Try.prog 16 #[.string ⟨s0.toArray⟩] w fun e w' => e = .returned (.bool true) ∧ Below w.heap.size w w' := by
  by_cases hE : D.rdErr (s0.take 400) = 0
  · have hk := D.rnode_ok (s0.take 400)
    cases hN : (D.rnode (s0.take 400)).1 with
    | leaf l v t => rw [hN] at hk; exact nreads_leaf s0 hE l v t hN hk.1 hk.2.1 hk.2.2 w
    | inner a b => rw [hN] at hk; exact nreads_inner s0 hE a b hN hk.1.2.1 hk.1.2.2.1 hk.2.2.1 hk.2.2.2.1 hk.1.1 hk.1.2.2.2 hk.2.1 hk.2.2.2.2 w
  · exact nreads_x s0 hE w
set_option maxRecDepth 1000000 in
theorem nreads_law : LawHolds 16 Try.f16 := by
  intro H enc W base args ds p hval hA
  rw [Try.params16] at hA hval
  obtain ⟨v0, vs0, d0, ds0, p0, q0, hargs, rfl, rfl, k0, r0⟩ := trodAll_cons hA
  obtain ⟨rfl, rfl, rfl⟩ := trodAll_nil r0
  obtain rfl : args = #[v0] := by cases args; simp_all
  obtain ⟨l, rfl, _⟩ := open_textN (hval 0 9 v0 rfl rfl) k0
  exact nreads_walk l W

theorem nreads_lifted (os : Os) (started : os.Started) (H : Type) (enc : TypeId × Value → H) :
    ReturnsInHanded {} Try.checked os 16 .any (Rows.nodeReadsSpec.pre6 enc Try.prog Try.f16 Rows.nodeReadsRow.domain false) (Rows.nodeReadsSpec.post enc Try.prog Try.f16 false true false false) :=
  lifted_of started (by kernel_rfl) Try.func16
    (ChangeSpec.witness6 (enc := enc) (C := Try.checked) false ⟨#[], #[.string ⟨#[]⟩], []⟩ 8 (by kernel_rfl) (by kernel_rfl) (by kernel_rfl) (by kernel_rfl))
    rfl (by kernel_rfl) (fun ds h => by rw [Try.params16] at h; match ds, h with | [_], _ => rfl) (by rw [Try.params16]; exact of_decide_eq_true (by kernel_rfl)) nreads_law
theorem nreads_over : Rows.nodeReadsRow.holds Try.pinned (OpenSpec.ofChange Rows.nodeReadsSpec) :=
  OpenClaim.holds_of_wide 16 Try.f16 rfl rfl rfl rfl rfl rfl rfl ⟨rfl, rfl, rfl, rfl, rfl⟩ rfl rfl rfl rfl rfl (by kernel_rfl) Try.func16 (by kernel_rfl)
    (of_decide_eq_true (by kernel_rfl)) (by unfold Func.isWrapper; first | (rw [if_pos (by decide +kernel)]; kernel_rfl) | (rw [if_neg (by decide +kernel)]; exact ⟨rfl, rfl⟩))
    (fun os started H enc _ => nreads_lifted os started H enc)
/-- The statement. -/
theorem nreads_proved : Rows.NodeReadsSaid := nreads_over
#print axioms nreads_proved
end Go.Proofs.Ytgjmnhbkdccgpaa

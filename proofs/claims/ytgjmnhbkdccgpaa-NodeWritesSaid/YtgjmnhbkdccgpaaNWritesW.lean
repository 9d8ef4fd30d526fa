/- The walk of NodeWrites. -/
import Derived.Test.YtgjmnhbkdccgpaaOpenN
import Derived.Test.YtgjmnhbkdccgpaaNRef
namespace Go.Proofs.Ytgjmnhbkdccgpaa
open Go.RowKit

/-- A whole block, as one step. -/
theorem wp_load_blkL {o : Oper} {a : Act} {w w1 : World} {Q : Exit → Act → World → Prop} {K : Act → World → Prop} (ty : TypeId) (x : Operand) (ho : o.op = .load ty x) (g : Nat) (hx : a.eval x = .pointer (some ⟨g, 0, none⟩)) {cs : List Value} {t : TypeId}
    (b : Blk w g cs.toArray t) (hT : Stp w.drew w1) (d : TypeDesc) (hu : Try.prog.underlying ty = some d) (hd : d.isRow = true) (hi : (Try.prog.info? ty).map (·.size) = some cs.length)
    (hk : K (a.put o.dst (.agg cs.toArray)) w1) : o.wp Try.prog a w1 K Q :=
  wp_load_mid ty x ho g 0 hx cs d (blk_rangeL (o := 0) (b.drew.at_ hT) (fun j u h => by rw [Nat.zero_add]; exact h)) hu hd hi hk
/-- Three boxes. -/
theorem box3 (w : World) (c0 c1 c2 : Array Value) (t0 t1 t2 : TypeId) : ∀ W, W = ((w.alloc (.cells c0 t0)).alloc (.cells c1 t1)).alloc (.cells c2 t2) →
    Blk W w.heap.size c0 t0 ∧ Blk W (w.heap.size + 1) c1 t1 ∧ Blk W (w.heap.size + 1 + 1) c2 t2 ∧ Below w.heap.size w W := by
  rintro W rfl
  have k1 := Blk.new (w.alloc (.cells c0 t0)) c1 t1
  have k2 := Blk.new ((w.alloc (.cells c0 t0)).alloc (.cells c1 t1)) c2 t2
  simp only [World.size_alloc] at k1 k2
  exact ⟨((Blk.new w c0 t0).alloc _).alloc _, k1.alloc _, k2,
    (((Below.refl w.heap.size w).alloc (Nat.le_refl _) _).alloc (by simp only [World.size_alloc]; omega) _).alloc (by simp only [World.size_alloc]; omega) _⟩
theorem innerE_vals (n : Int) (p : List UInt8) (t : Int) (n' : Int) (p' : List UInt8) (t' : Int) : D.innerE n p t n' p' t' = 0 ∨ D.innerE n p t n' p' t' = 1 ∨ D.innerE n p t n' p' t' = 3 := by
  unfold D.innerE
  split
  · split
    · exact .inr (.inr rfl)
    · exact .inl rfl
  · exact .inr (.inl rfl)
set_option maxRecDepth 100000 in
set_option maxHeartbeats 8000000 in
theorem nwrites_walk (l v : List UInt8) (i : Int) (n0 : Int) (p0 s0 : List UInt8) (t0 : Int) (n1 : Int) (p1 s1 : List UInt8) (t1 : Int) (hl : l.length = 32) (hv : v.length = 32)
    (hn0 : (Lit.int .i64 n0).wf = true) (hp0 : p0.length = 32) (hs0 : s0.length = 32) (hn1 : (Lit.int .i64 n1).wf = true) (hp1 : p1.length = 32) (hs1 : s1.length = 32) (w : World) :
    Calls Try.prog 13 #[.agg (leafC l v i).toArray, .agg (itemC n0 p0 s0 t0).toArray, .agg (itemC n1 p1 s1 t1).toArray] w fun e w' => e = .returned (.bool true) ∧ Below w.heap.size w w' := by
  have BL := Lib.hid (fun W => nbytesLeaf_any l v i hl hv W)
  have BI := Lib.hid (fun W => nbytesInner_any n0 p0 s0 t0 n1 p1 s1 t1 hn0 hn1 hp0 hs0 hp1 hs1 W)
  have T0 := Lib.hid (fun W => told_any n0 p0 s0 t0 hp0 hs0 W)
  have T1 := Lib.hid (fun W => told_any n1 p1 s1 t1 hp1 hs1 W)
  have CK := Lib.hid (fun W => rchkI_any n0 p0 s0 t0 n1 p1 s1 t1 hp0 hs0 hp1 hs1 W)
  have AA := Lib.hid (fun W => nawake_any W)
  have FF := Lib.hid (fun W => rflag_any true W)
  have hz0 : (Try.prog.info? 61).map (·.size) = some (leafC l v i).length := by rw [leafC_length l v i hl hv]; exact info_leaf
  have hz1 : (Try.prog.info? 65).map (·.size) = some (itemC n0 p0 s0 t0).length := by rw [itemC_length n0 p0 s0 t0 hp0 hs0]; exact info_item
  have hz2 : (Try.prog.info? 65).map (·.size) = some (itemC n1 p1 s1 t1).length := by rw [itemC_length n1 p1 s1 t1 hp1 hs1]; exact info_item
  have hz0' : (Try.prog.info? 61).map (·.size) = some (leafC l v i).toArray.size := by rw [List.size_toArray]; exact hz0
  have hz1' : (Try.prog.info? 65).map (·.size) = some (itemC n0 p0 s0 t0).toArray.size := by rw [List.size_toArray]; exact hz1
  have hz2' : (Try.prog.info? 65).map (·.size) = some (itemC n1 p1 s1 t1).toArray.size := by rw [List.size_toArray]; exact hz2
  have h64 : (leafC l v i).toArray[64]? = some (.int .i64 i) := by rw [List.getElem?_toArray]; exact leafC_at l v i hl hv
  have hbd := build_inner n0 t0 n1 t1 p0 s0 p1 s1 hp0 hs0 hp1 hs1
  obtain ⟨B0, B1, B2, hB⟩ := box3 w (leafC l v i).toArray (itemC n0 p0 s0 t0).toArray (itemC n1 p1 s1 t1).toArray 61 65 65 _ rfl
  by_cases hI : D.innerE n0 p0 t0 n1 p1 t1 = 0
  · obtain ⟨g1, g2⟩ := D.innerE_good hI
    obtain ⟨n0, t0, rfl, hm0, rfl, hq0, -⟩ := D.goodI_nat g1
    obtain ⟨n1, t1, rfl, hm1, rfl, hq1, -⟩ := D.goodI_nat g2
    clear g1 g2 hn0 hn1
    have W0 := Lib.hid (fun W => rwrite_any n0 p0 s0 t0 (by omega) (by omega) hp0 hs0 W)
    have W1 := Lib.hid (fun W => rwrite_any n1 p1 s1 t1 (by omega) (by omega) hp1 hs1 W)
    have hO : D.innerO (n0 : Int) p0 s0 t0 n1 p1 s1 t1 = D.flagB true ++ D.itemW n0 p0 s0 t0 ++ D.itemW n1 p1 s1 t1 := by unfold D.innerO; rw [if_pos hI]; rfl
    have a1 := D.numB_le9 n0 (by omega)
    have a2 := D.numB_le9 t0 (by omega)
    have a3 := D.numB_le9 n1 (by omega)
    have a4 := D.numB_le9 t1 (by omega)
    have i1 : (D.itemW n0 p0 s0 t0).length ≤ 82 := by unfold D.itemW; simp; omega
    have i2 : (D.itemW n1 p1 s1 t1).length ≤ 82 := by unfold D.itemW; simp; omega
    have hfl : (D.flagB true).length = 1 := rfl
    have sa1 := str_add (D.flagB true) (D.itemW n0 p0 s0 t0) (by omega)
    have sa2 := str_add (D.flagB true ++ D.itemW n0 p0 s0 t0) (D.itemW n1 p1 s1 t1) (by rw [List.length_append]; omega)
    rw [hO, hI] at BI
    rw [hI] at CK
    have hself : ((D.flagB true ++ D.itemW n0 p0 s0 t0 ++ D.itemW n1 p1 s1 t1) == (D.flagB true ++ D.itemW n0 p0 s0 t0 ++ D.itemW n1 p1 s1 t1)) = true := beq_self_eq_true _
    clear hO hI a1 a2 a3 a4 i1 i2 hfl hm0 hq0 hm1 hq1
    generalize D.flagB true ++ D.itemW n0 p0 s0 t0 ++ D.itemW n1 p1 s1 t1 = x3 at *
    generalize D.flagB true ++ D.itemW n0 p0 s0 t0 = x2 at *
    generalize D.flagB true = x1 at *
    generalize D.itemW n0 p0 s0 t0 = y1 at *
    generalize D.itemW n1 p1 s1 t1 = y2 at *
    by_cases c1 : i < 0
    · have d1 : decide (i < 0) = true := by simp; omega
      have hO : D.leafO l v i = [] := by unfold D.leafO D.leafE; rw [if_neg (by rw [if_neg (by omega)]; decide)]
      have hE : D.leafE i = 1 := by unfold D.leafE; rw [if_neg (by omega)]
      rw [hO, hE] at BL
      clear hO hE
      go_enter Try.func13, Try.ntmps13
      go_wp2_with (first | (refine wpList_load_blk (by rfl) 61 (.tmp 3) (by rfl) 0 (by rfl) (B0) ((leafC l v _).toArray) whole_at _ Try.underlying61 (by rfl) hz0' ?_; simp only [Act.put, List.setIfInBounds_toArray, List.set_cons_succ, List.set_cons_zero]) | (refine wpList_load_blk (by rfl) 65 (.tmp 4) (by rfl) 0 (by rfl) (B1) ((itemC _ p0 s0 _).toArray) whole_at _ Try.underlying65 (by rfl) hz1' ?_; simp only [Act.put, List.setIfInBounds_toArray, List.set_cons_succ, List.set_cons_zero]) | (refine wpList_load_blk (by rfl) 65 (.tmp 5) (by rfl) 0 (by rfl) (B2) ((itemC _ p1 s1 _).toArray) whole_at _ Try.underlying65 (by rfl) hz2' ?_; simp only [Act.put, List.setIfInBounds_toArray, List.set_cons_succ, List.set_cons_zero]) | (refine wpList_build (by rfl) 69 ([(0, .tmp 19), (1, .tmp 20)]) (by rfl) ([(0, .agg (itemC _ p0 s0 _).toArray), (1, .agg (itemC _ p1 s1 _).toArray)]) (by rfl) (.agg (innerC _ p0 s0 _ _ p1 s1 _).toArray) (hbd) ?_; simp only [Act.put, List.setIfInBounds_toArray, List.set_cons_succ, List.set_cons_zero]) | (go_at_call 44; first | ((with_reducible refine (BL.out _).mono ?_); rintro e w1 ⟨rfl, h1⟩; replace B0 := B0.at_ h1; replace B1 := B1.at_ h1; replace B2 := B2.at_ h1; replace hB := hB.trans (h1.mono hB.size); clear h1) | ((with_reducible refine (BI.out _).mono ?_); rintro e w1 ⟨rfl, h1⟩; replace B0 := B0.at_ h1; replace B1 := B1.at_ h1; replace B2 := B2.at_ h1; replace hB := hB.trans (h1.mono hB.size); clear h1)))
      apply wp_region_rel_below [[(4, none)], [(26, some 0)], [(5, none)], [(28, some 2)], [(27, some 1), (29, some 3)], [(30, some 4)]] [eqv _, eqv _, eqv _, eqv _, eqv _, eqv _] (by kernel_rfl) (by kernel_rfl)
      case hobs =>
        refine ⟨?_, ?_⟩
        · rintro L a1 w1 hT - - ⟨h4, -⟩   -- 0: Op.load 65 t4
          have e4 : a1.tmps.getD 4 undef = _ := h4
          have f4 := getD_form e4
          clear h4
          exact wp_load_blkL 65 (.tmp 4) rfl _ e4 (cs := itemC _ p0 s0 _) B1 hT _ Try.underlying65 (by rfl) hz1 (left_intro rfl (Stp.refl _) trivial)
        refine ⟨?_, ?_⟩
        · rintro L a1 w1 hT - - ⟨h26, -⟩   -- 1: Op.call { value (Operand.func 46), args := #[t26], argTypes := #[65] }
          have e26 : a1.tmps.getD 26 undef = _ := h26
          have f26 := getD_form e26
          clear h26
          go_simp; go_at_call 46; (with_reducible refine (T0.out _).mono ?_); rintro e w2 ⟨rfl, hb⟩; exact left_intro rfl (Stp.of hb) trivial
        refine ⟨?_, ?_⟩
        · rintro L a1 w1 hT - - ⟨h5, -⟩   -- 2: Op.load 65 t5
          have e5 : a1.tmps.getD 5 undef = _ := h5
          have f5 := getD_form e5
          clear h5
          exact wp_load_blkL 65 (.tmp 5) rfl _ e5 (cs := itemC _ p1 s1 _) B2 hT _ Try.underlying65 (by rfl) hz2 (left_intro rfl (Stp.refl _) trivial)
        refine ⟨?_, ?_⟩
        · rintro L a1 w1 hT - - ⟨h28, -⟩   -- 3: Op.call { value (Operand.func 46), args := #[t28], argTypes := #[65] }
          have e28 : a1.tmps.getD 28 undef = _ := h28
          have f28 := getD_form e28
          clear h28
          go_simp; go_at_call 46; (with_reducible refine (T1.out _).mono ?_); rintro e w2 ⟨rfl, hb⟩; exact left_intro rfl (Stp.of hb) trivial
        refine ⟨?_, ?_⟩
        · rintro L a1 w1 hT - - ⟨h27, h29, -⟩   -- 4: Op.call { value (Operand.func 45), args := #[t27, t29], argTypes := #[72, 72] }
          have e27 : a1.tmps.getD 27 undef = _ := h27
          have f27 := getD_form e27
          have e29 : a1.tmps.getD 29 undef = _ := h29
          have f29 := getD_form e29
          clear h27 h29
          go_simp; go_at_call 45; (with_reducible refine (CK.out _).mono ?_); rintro e w2 ⟨rfl, hb⟩; exact left_intro rfl (Stp.of hb) trivial
        refine ⟨?_, ?_⟩
        · rintro L a1 w1 hT - - ⟨h30, -⟩   -- 5: Op.assign t30
          have e30 : a1.tmps.getD 30 undef = _ := h30
          have f30 := getD_form e30
          clear h30
          go_simp; exact left_intro rfl (Stp.refl _) trivial
        trivial
      case hmono => repeat (first | exact trivial | refine ⟨fun _ _ _ _ h => h, ?_⟩)
      case hend =>
        intro w2 hT
        rintro _ rfl _ rfl _ rfl _ rfl _ rfl _ rfl
        simp only [relEnd, Act.put, List.setIfInBounds_toArray, List.set_cons_succ, List.set_cons_zero]
        replace B0 := B0.at_ hT
        replace B1 := B1.at_ hT
        replace B2 := B2.at_ hT
        replace hB := hB.trans (Below.mono hT hB.size)
        clear hT
        have k64 := B0.cellv h64
        go_wp2
        apply wp_region_rel_below [[], [(31, some 0)], [(32, some 1)], [(10, none), (33, some 2)], [(11, none), (33, some 2)], [(34, some 3), (35, some 4), (33, some 2)], [(33, some 2), (36, some 5)], [(37, some 6)], [(11, none), (38, some 7)], [(39, some 8), (38, some 7)], [(40, some 9), (38, some 7)], [(9, none), (41, some 10)], [(41, some 10)], [(4, none), (41, some 10)], [(44, some 13), (41, some 10)], [(45, some 14), (41, some 10)], [(43, some 12), (46, some 15), (41, some 10)], [(5, none), (41, some 10)], [(48, some 17), (41, some 10)], [(49, some 18), (41, some 10)], [(47, some 16), (50, some 19), (41, some 10)], [(42, some 11), (51, some 20), (41, some 10)], [(41, some 10), (52, some 21), (38, some 7)], [(38, some 7), (53, some 22)], [(54, some 23)], [(11, none), (55, some 24)], [(56, some 25), (55, some 24)], [(57, some 26), (55, some 24)], [(9, none), (58, some 27)], [(59, some 28), (58, some 27)], [(58, some 27), (60, some 29), (55, some 24)], [(55, some 24), (61, some 30)]] [eqv _, eqv _, eqv _, eqv _, eqv _, eqv _, eqv _, eqv _, eqv _, eqv _, eqv _, eqv _, eqv _, eqv _, eqv _, eqv _, eqv _, eqv _, eqv _, eqv _, eqv _, eqv _, eqv _, eqv _, eqv _, eqv _, eqv _, eqv _, eqv _, eqv _, eqv _, eqv _] (by kernel_rfl) (by kernel_rfl)
        case hobs =>
          refine ⟨?_, ?_⟩
          · rintro L a1 w1 hT - - -   -- 0: Op.call { value (Operand.func 47), args := #[], argTypes := #[] }
            go_simp; go_at_call 47; (with_reducible refine (AA.out _).mono ?_); rintro e w2 ⟨rfl, hb⟩; exact left_intro rfl (Stp.of hb) trivial
          refine ⟨?_, ?_⟩
          · rintro L a1 w1 hT - - ⟨h31, -⟩   -- 1: Op.unOp UnOp.not 4 t31
            have e31 : a1.tmps.getD 31 undef = _ := h31
            have f31 := getD_form e31
            clear h31
            go_simp; exact left_intro rfl (Stp.refl _) trivial
          refine ⟨?_, ?_⟩
          · rintro L a1 w1 hT - - ⟨h32, -⟩   -- 2: Op.move t32
            have e32 : a1.tmps.getD 32 undef = _ := h32
            have f32 := getD_form e32
            clear h32
            go_simp; exact left_intro rfl (Stp.refl _) trivial
          refine ⟨?_, ?_⟩
          · rintro L a1 w1 hT - - ⟨h10, h33, -⟩   -- 3: Op.move t10
            have e10 : a1.tmps.getD 10 undef = _ := h10
            have f10 := getD_form e10
            have e33 : a1.tmps.getD 33 undef = _ := h33
            have f33 := getD_form e33
            clear h10 h33
            refine ⟨false, 33, by rfl, e33, ?_⟩; rw [if_pos rfl]
            go_simp; exact left_intro rfl (Stp.refl _) trivial
          refine ⟨?_, ?_⟩
          · rintro L a1 w1 hT - - ⟨h11, h33, -⟩   -- 4: Op.move t11
            have e11 : a1.tmps.getD 11 undef = _ := h11
            have f11 := getD_form e11
            have e33 : a1.tmps.getD 33 undef = _ := h33
            have f33 := getD_form e33
            clear h11 h33
            refine ⟨false, 33, by rfl, e33, ?_⟩; rw [if_pos rfl]
            go_simp; exact left_intro rfl (Stp.refl _) trivial
          refine ⟨?_, ?_⟩
          · rintro L a1 w1 hT - - ⟨h34, h35, h33, -⟩   -- 5: Op.binOp BinOp.neq 3 t34 t35 3
            have e34 : a1.tmps.getD 34 undef = _ := h34
            have f34 := getD_form e34
            have e35 : a1.tmps.getD 35 undef = _ := h35
            have f35 := getD_form e35
            have e33 : a1.tmps.getD 33 undef = _ := h33
            have f33 := getD_form e33
            clear h34 h35 h33
            refine ⟨false, 33, by rfl, e33, ?_⟩; rw [if_pos rfl]
            go_simp; exact left_intro rfl (Stp.refl _) trivial
          refine ⟨?_, ?_⟩
          · rintro L a1 w1 hT - - ⟨h33, h36, -⟩   -- 6: Op.pick t33 (const (Value.bool true)) t36
            have e33 : a1.tmps.getD 33 undef = _ := h33
            have f33 := getD_form e33
            have e36 : a1.tmps.getD 36 undef = _ := h36
            have f36 := getD_form e36
            clear h33 h36
            go_simp; exact left_intro rfl (Stp.refl _) trivial
          refine ⟨?_, ?_⟩
          · rintro L a1 w1 hT - - ⟨h37, -⟩   -- 7: Op.move t37
            have e37 : a1.tmps.getD 37 undef = _ := h37
            have f37 := getD_form e37
            clear h37
            go_simp; exact left_intro rfl (Stp.refl _) trivial
          refine ⟨?_, ?_⟩
          · rintro L a1 w1 hT - - ⟨h11, h38, -⟩   -- 8: Op.move t11
            have e11 : a1.tmps.getD 11 undef = _ := h11
            have f11 := getD_form e11
            have e38 : a1.tmps.getD 38 undef = _ := h38
            have f38 := getD_form e38
            clear h11 h38
            refine ⟨false, 38, by rfl, e38, ?_⟩; rw [if_pos rfl]
            go_simp; exact left_intro rfl (Stp.refl _) trivial
          refine ⟨?_, ?_⟩
          · rintro L a1 w1 hT - - ⟨h39, h38, -⟩   -- 9: Op.binOp BinOp.eql 3 t39 (const (0:i64)) 3
            have e39 : a1.tmps.getD 39 undef = _ := h39
            have f39 := getD_form e39
            have e38 : a1.tmps.getD 38 undef = _ := h38
            have f38 := getD_form e38
            clear h39 h38
            refine ⟨false, 38, by rfl, e38, ?_⟩; rw [if_pos rfl]
            go_simp; exact left_intro rfl (Stp.refl _) trivial
          refine ⟨?_, ?_⟩
          · rintro L a1 w1 hT - - ⟨h40, h38, -⟩   -- 10: Op.move t40
            have e40 : a1.tmps.getD 40 undef = _ := h40
            have f40 := getD_form e40
            have e38 : a1.tmps.getD 38 undef = _ := h38
            have f38 := getD_form e38
            clear h40 h38
            refine ⟨false, 38, by rfl, e38, ?_⟩; rw [if_pos rfl]
            go_simp; exact left_intro rfl (Stp.refl _) trivial
          refine ⟨?_, ?_⟩
          · rintro L a1 w1 hT - - ⟨h9, h41, -⟩   -- 11: Op.move t9
            have e9 : a1.tmps.getD 9 undef = _ := h9
            have f9 := getD_form e9
            have e41 : a1.tmps.getD 41 undef = _ := h41
            have f41 := getD_form e41
            clear h9 h41
            refine ⟨true, 41, by rfl, e41, ?_⟩; rw [if_pos rfl]
            go_simp; exact left_intro rfl (Stp.refl _) trivial
          refine ⟨?_, ?_⟩
          · rintro L a1 w1 hT - - ⟨h41, -⟩   -- 12: Op.call { value (Operand.func 48), args := #[const (Value.bool true)], argTypes := #[4] }
            have e41 : a1.tmps.getD 41 undef = _ := h41
            have f41 := getD_form e41
            clear h41
            refine ⟨true, 41, by rfl, e41, ?_⟩; rw [if_pos rfl]
            go_simp; go_at_call 48; (with_reducible refine (FF.out _).mono ?_); rintro e w2 ⟨rfl, hb⟩; exact left_intro rfl (Stp.of hb) trivial
          refine ⟨?_, ?_⟩
          · rintro L a1 w1 hT - - ⟨h4, h41, -⟩   -- 13: Op.load 65 t4
            have e4 : a1.tmps.getD 4 undef = _ := h4
            have f4 := getD_form e4
            have e41 : a1.tmps.getD 41 undef = _ := h41
            have f41 := getD_form e41
            clear h4 h41
            refine ⟨true, 41, by rfl, e41, ?_⟩; rw [if_pos rfl]
            exact wp_load_blkL 65 (.tmp 4) rfl _ e4 (cs := itemC _ p0 s0 _) B1 hT _ Try.underlying65 (by rfl) hz1 (left_intro rfl (Stp.refl _) trivial)
          refine ⟨?_, ?_⟩
          · rintro L a1 w1 hT - - ⟨h44, h41, -⟩   -- 14: Op.call { value (Operand.func 46), args := #[t44], argTypes := #[65] }
            have e44 : a1.tmps.getD 44 undef = _ := h44
            have f44 := getD_form e44
            have e41 : a1.tmps.getD 41 undef = _ := h41
            have f41 := getD_form e41
            clear h44 h41
            refine ⟨true, 41, by rfl, e41, ?_⟩; rw [if_pos rfl]
            go_simp; go_at_call 46; (with_reducible refine (T0.out _).mono ?_); rintro e w2 ⟨rfl, hb⟩; exact left_intro rfl (Stp.of hb) trivial
          refine ⟨?_, ?_⟩
          · rintro L a1 w1 hT - - ⟨h45, h41, -⟩   -- 15: Op.call { value (Operand.func 49), args := #[t45], argTypes := #[72] }
            have e45 : a1.tmps.getD 45 undef = _ := h45
            have f45 := getD_form e45
            have e41 : a1.tmps.getD 41 undef = _ := h41
            have f41 := getD_form e41
            clear h45 h41
            refine ⟨true, 41, by rfl, e41, ?_⟩; rw [if_pos rfl]
            go_simp; go_at_call 49; (with_reducible refine (W0.out _).mono ?_); rintro e w2 ⟨rfl, hb⟩; exact left_intro rfl (Stp.of hb) trivial
          refine ⟨?_, ?_⟩
          · rintro L a1 w1 hT - - ⟨h43, h46, h41, -⟩   -- 16: Op.binOp BinOp.add 9 t43 t46 9
            have e43 : a1.tmps.getD 43 undef = _ := h43
            have f43 := getD_form e43
            have e46 : a1.tmps.getD 46 undef = _ := h46
            have f46 := getD_form e46
            have e41 : a1.tmps.getD 41 undef = _ := h41
            have f41 := getD_form e41
            clear h43 h46 h41
            refine ⟨true, 41, by rfl, e41, ?_⟩; rw [if_pos rfl]
            go_simp; exact left_intro rfl (Stp.refl _) trivial
          refine ⟨?_, ?_⟩
          · rintro L a1 w1 hT - - ⟨h5, h41, -⟩   -- 17: Op.load 65 t5
            have e5 : a1.tmps.getD 5 undef = _ := h5
            have f5 := getD_form e5
            have e41 : a1.tmps.getD 41 undef = _ := h41
            have f41 := getD_form e41
            clear h5 h41
            refine ⟨true, 41, by rfl, e41, ?_⟩; rw [if_pos rfl]
            exact wp_load_blkL 65 (.tmp 5) rfl _ e5 (cs := itemC _ p1 s1 _) B2 hT _ Try.underlying65 (by rfl) hz2 (left_intro rfl (Stp.refl _) trivial)
          refine ⟨?_, ?_⟩
          · rintro L a1 w1 hT - - ⟨h48, h41, -⟩   -- 18: Op.call { value (Operand.func 46), args := #[t48], argTypes := #[65] }
            have e48 : a1.tmps.getD 48 undef = _ := h48
            have f48 := getD_form e48
            have e41 : a1.tmps.getD 41 undef = _ := h41
            have f41 := getD_form e41
            clear h48 h41
            refine ⟨true, 41, by rfl, e41, ?_⟩; rw [if_pos rfl]
            go_simp; go_at_call 46; (with_reducible refine (T1.out _).mono ?_); rintro e w2 ⟨rfl, hb⟩; exact left_intro rfl (Stp.of hb) trivial
          refine ⟨?_, ?_⟩
          · rintro L a1 w1 hT - - ⟨h49, h41, -⟩   -- 19: Op.call { value (Operand.func 49), args := #[t49], argTypes := #[72] }
            have e49 : a1.tmps.getD 49 undef = _ := h49
            have f49 := getD_form e49
            have e41 : a1.tmps.getD 41 undef = _ := h41
            have f41 := getD_form e41
            clear h49 h41
            refine ⟨true, 41, by rfl, e41, ?_⟩; rw [if_pos rfl]
            go_simp; go_at_call 49; (with_reducible refine (W1.out _).mono ?_); rintro e w2 ⟨rfl, hb⟩; exact left_intro rfl (Stp.of hb) trivial
          refine ⟨?_, ?_⟩
          · rintro L a1 w1 hT - - ⟨h47, h50, h41, -⟩   -- 20: Op.binOp BinOp.add 9 t47 t50 9
            have e47 : a1.tmps.getD 47 undef = _ := h47
            have f47 := getD_form e47
            have e50 : a1.tmps.getD 50 undef = _ := h50
            have f50 := getD_form e50
            have e41 : a1.tmps.getD 41 undef = _ := h41
            have f41 := getD_form e41
            clear h47 h50 h41
            refine ⟨true, 41, by rfl, e41, ?_⟩; rw [if_pos rfl]
            go_simp; exact left_intro rfl (Stp.refl _) trivial
          refine ⟨?_, ?_⟩
          · rintro L a1 w1 hT - - ⟨h42, h51, h41, -⟩   -- 21: Op.binOp BinOp.neq 9 t42 t51 9
            have e42 : a1.tmps.getD 42 undef = _ := h42
            have f42 := getD_form e42
            have e51 : a1.tmps.getD 51 undef = _ := h51
            have f51 := getD_form e51
            have e41 : a1.tmps.getD 41 undef = _ := h41
            have f41 := getD_form e41
            clear h42 h51 h41
            refine ⟨true, 41, by rfl, e41, ?_⟩; rw [if_pos rfl]
            go_simp; exact left_intro rfl (Stp.refl _) trivial
          refine ⟨?_, ?_⟩
          · rintro L a1 w1 hT - - ⟨h41, h52, h38, -⟩   -- 22: Op.pick t41 t52 (const (Value.bool false))
            have e41 : a1.tmps.getD 41 undef = _ := h41
            have f41 := getD_form e41
            have e52 : a1.tmps.getD 52 undef = _ := h52
            have f52 := getD_form e52
            have e38 : a1.tmps.getD 38 undef = _ := h38
            have f38 := getD_form e38
            clear h41 h52 h38
            refine ⟨false, 38, by rfl, e38, ?_⟩; rw [if_pos rfl]
            go_simp; exact left_intro rfl (Stp.refl _) trivial
          refine ⟨?_, ?_⟩
          · rintro L a1 w1 hT - - ⟨h38, h53, -⟩   -- 23: Op.pick t38 (const (Value.bool true)) t53
            have e38 : a1.tmps.getD 38 undef = _ := h38
            have f38 := getD_form e38
            have e53 : a1.tmps.getD 53 undef = _ := h53
            have f53 := getD_form e53
            clear h38 h53
            go_simp; exact left_intro rfl (Stp.refl _) trivial
          refine ⟨?_, ?_⟩
          · rintro L a1 w1 hT - - ⟨h54, -⟩   -- 24: Op.move t54
            have e54 : a1.tmps.getD 54 undef = _ := h54
            have f54 := getD_form e54
            clear h54
            go_simp; exact left_intro rfl (Stp.refl _) trivial
          refine ⟨?_, ?_⟩
          · rintro L a1 w1 hT - - ⟨h11, h55, -⟩   -- 25: Op.move t11
            have e11 : a1.tmps.getD 11 undef = _ := h11
            have f11 := getD_form e11
            have e55 : a1.tmps.getD 55 undef = _ := h55
            have f55 := getD_form e55
            clear h11 h55
            refine ⟨false, 55, by rfl, e55, ?_⟩; rw [if_pos rfl]
            go_simp; exact left_intro rfl (Stp.refl _) trivial
          refine ⟨?_, ?_⟩
          · rintro L a1 w1 hT - - ⟨h56, h55, -⟩   -- 26: Op.binOp BinOp.neq 3 t56 (const (0:i64)) 3
            have e56 : a1.tmps.getD 56 undef = _ := h56
            have f56 := getD_form e56
            have e55 : a1.tmps.getD 55 undef = _ := h55
            have f55 := getD_form e55
            clear h56 h55
            refine ⟨false, 55, by rfl, e55, ?_⟩; rw [if_pos rfl]
            go_simp; exact left_intro rfl (Stp.refl _) trivial
          refine ⟨?_, ?_⟩
          · rintro L a1 w1 hT - - ⟨h57, h55, -⟩   -- 27: Op.move t57
            have e57 : a1.tmps.getD 57 undef = _ := h57
            have f57 := getD_form e57
            have e55 : a1.tmps.getD 55 undef = _ := h55
            have f55 := getD_form e55
            clear h57 h55
            refine ⟨false, 55, by rfl, e55, ?_⟩; rw [if_pos rfl]
            go_simp; exact left_intro rfl (Stp.refl _) trivial
          refine ⟨?_, ?_⟩
          · rintro L a1 w1 hT - - ⟨h9, h58, -⟩   -- 28: Op.move t9
            have e9 : a1.tmps.getD 9 undef = _ := h9
            have f9 := getD_form e9
            have e58 : a1.tmps.getD 58 undef = _ := h58
            have f58 := getD_form e58
            clear h9 h58
            refine ⟨false, 58, by rfl, e58, ?_⟩; rw [if_neg (by decide)]
            exact left_intro rfl (Stp.refl _) trivial
          refine ⟨?_, ?_⟩
          · rintro L a1 w1 hT - - ⟨h59, h58, -⟩   -- 29: Op.binOp BinOp.neq 9 t59 (const (Value.string { data := #[] })) 9
            have e59 : a1.tmps.getD 59 undef = _ := h59
            have f59 := getD_form e59
            have e58 : a1.tmps.getD 58 undef = _ := h58
            have f58 := getD_form e58
            clear h59 h58
            refine ⟨false, 58, by rfl, e58, ?_⟩; rw [if_neg (by decide)]
            exact left_intro rfl (Stp.refl _) trivial
          refine ⟨?_, ?_⟩
          · rintro L a1 w1 hT - - ⟨h58, h60, h55, -⟩   -- 30: Op.pick t58 t60 (const (Value.bool false))
            have e58 : a1.tmps.getD 58 undef = _ := h58
            have f58 := getD_form e58
            have e60 : a1.tmps.getD 60 undef = _ := h60
            have f60 := getD_form e60
            have e55 : a1.tmps.getD 55 undef = _ := h55
            have f55 := getD_form e55
            clear h58 h60 h55
            refine ⟨false, 55, by rfl, e55, ?_⟩; rw [if_pos rfl]
            go_simp; exact left_intro rfl (Stp.refl _) trivial
          refine ⟨?_, ?_⟩
          · rintro L a1 w1 hT - - ⟨h55, h61, -⟩   -- 31: Op.pick t55 (const (Value.bool true)) t61
            have e55 : a1.tmps.getD 55 undef = _ := h55
            have f55 := getD_form e55
            have e61 : a1.tmps.getD 61 undef = _ := h61
            have f61 := getD_form e61
            clear h55 h61
            go_simp; exact left_intro rfl (Stp.refl _) trivial
          trivial
        case hmono => repeat (first | exact trivial | refine ⟨fun _ _ _ _ h => h, ?_⟩)
        case hend =>
          intro w2 hT
          rintro _ rfl _ rfl _ rfl _ rfl _ rfl _ rfl _ rfl _ rfl _ rfl _ rfl _ rfl _ rfl _ rfl _ rfl _ rfl _ rfl _ rfl _ rfl _ rfl _ rfl _ rfl _ rfl _ rfl _ rfl _ rfl _ rfl _ rfl _ rfl _ rfl _ rfl _ rfl _ rfl
          simp only [relEnd, Act.put, List.setIfInBounds_toArray, List.set_cons_succ, List.set_cons_zero]
          replace B0 := B0.at_ hT
          replace B1 := B1.at_ hT
          replace B2 := B2.at_ hT
          replace hB := hB.trans (Below.mono hT hB.size)
          clear hT
          have k64 := B0.cellv h64
          go_wp2
          go_ret
          exact ⟨rfl, hB⟩
    · have d1 : decide (i < 0) = false := by simp; omega
      by_cases c2 : 1073741824 < i
      · have d2 : decide (1073741824 < i) = true := by simp; omega
        have d2' : decide (i > 1073741824) = true := by simp; omega
        have hO : D.leafO l v i = [] := by unfold D.leafO D.leafE; rw [if_neg (by rw [if_neg (by omega)]; decide)]
        have hE : D.leafE i = 1 := by unfold D.leafE; rw [if_neg (by omega)]
        rw [hO, hE] at BL
        clear hO hE
        go_enter Try.func13, Try.ntmps13
        go_wp2_with (first | (refine wpList_load_blk (by rfl) 61 (.tmp 3) (by rfl) 0 (by rfl) (B0) ((leafC l v _).toArray) whole_at _ Try.underlying61 (by rfl) hz0' ?_; simp only [Act.put, List.setIfInBounds_toArray, List.set_cons_succ, List.set_cons_zero]) | (refine wpList_load_blk (by rfl) 65 (.tmp 4) (by rfl) 0 (by rfl) (B1) ((itemC _ p0 s0 _).toArray) whole_at _ Try.underlying65 (by rfl) hz1' ?_; simp only [Act.put, List.setIfInBounds_toArray, List.set_cons_succ, List.set_cons_zero]) | (refine wpList_load_blk (by rfl) 65 (.tmp 5) (by rfl) 0 (by rfl) (B2) ((itemC _ p1 s1 _).toArray) whole_at _ Try.underlying65 (by rfl) hz2' ?_; simp only [Act.put, List.setIfInBounds_toArray, List.set_cons_succ, List.set_cons_zero]) | (refine wpList_build (by rfl) 69 ([(0, .tmp 19), (1, .tmp 20)]) (by rfl) ([(0, .agg (itemC _ p0 s0 _).toArray), (1, .agg (itemC _ p1 s1 _).toArray)]) (by rfl) (.agg (innerC _ p0 s0 _ _ p1 s1 _).toArray) (hbd) ?_; simp only [Act.put, List.setIfInBounds_toArray, List.set_cons_succ, List.set_cons_zero]) | (go_at_call 44; first | ((with_reducible refine (BL.out _).mono ?_); rintro e w1 ⟨rfl, h1⟩; replace B0 := B0.at_ h1; replace B1 := B1.at_ h1; replace B2 := B2.at_ h1; replace hB := hB.trans (h1.mono hB.size); clear h1) | ((with_reducible refine (BI.out _).mono ?_); rintro e w1 ⟨rfl, h1⟩; replace B0 := B0.at_ h1; replace B1 := B1.at_ h1; replace B2 := B2.at_ h1; replace hB := hB.trans (h1.mono hB.size); clear h1)))
        apply wp_region_rel_below [[(4, none)], [(26, some 0)], [(5, none)], [(28, some 2)], [(27, some 1), (29, some 3)], [(30, some 4)]] [eqv _, eqv _, eqv _, eqv _, eqv _, eqv _] (by kernel_rfl) (by kernel_rfl)
        case hobs =>
          refine ⟨?_, ?_⟩
          · rintro L a1 w1 hT - - ⟨h4, -⟩   -- 0: Op.load 65 t4
            have e4 : a1.tmps.getD 4 undef = _ := h4
            have f4 := getD_form e4
            clear h4
            exact wp_load_blkL 65 (.tmp 4) rfl _ e4 (cs := itemC _ p0 s0 _) B1 hT _ Try.underlying65 (by rfl) hz1 (left_intro rfl (Stp.refl _) trivial)
          refine ⟨?_, ?_⟩
          · rintro L a1 w1 hT - - ⟨h26, -⟩   -- 1: Op.call { value (Operand.func 46), args := #[t26], argTypes := #[65] }
            have e26 : a1.tmps.getD 26 undef = _ := h26
            have f26 := getD_form e26
            clear h26
            go_simp; go_at_call 46; (with_reducible refine (T0.out _).mono ?_); rintro e w2 ⟨rfl, hb⟩; exact left_intro rfl (Stp.of hb) trivial
          refine ⟨?_, ?_⟩
          · rintro L a1 w1 hT - - ⟨h5, -⟩   -- 2: Op.load 65 t5
            have e5 : a1.tmps.getD 5 undef = _ := h5
            have f5 := getD_form e5
            clear h5
            exact wp_load_blkL 65 (.tmp 5) rfl _ e5 (cs := itemC _ p1 s1 _) B2 hT _ Try.underlying65 (by rfl) hz2 (left_intro rfl (Stp.refl _) trivial)
          refine ⟨?_, ?_⟩
          · rintro L a1 w1 hT - - ⟨h28, -⟩   -- 3: Op.call { value (Operand.func 46), args := #[t28], argTypes := #[65] }
            have e28 : a1.tmps.getD 28 undef = _ := h28
            have f28 := getD_form e28
            clear h28
            go_simp; go_at_call 46; (with_reducible refine (T1.out _).mono ?_); rintro e w2 ⟨rfl, hb⟩; exact left_intro rfl (Stp.of hb) trivial
          refine ⟨?_, ?_⟩
          · rintro L a1 w1 hT - - ⟨h27, h29, -⟩   -- 4: Op.call { value (Operand.func 45), args := #[t27, t29], argTypes := #[72, 72] }
            have e27 : a1.tmps.getD 27 undef = _ := h27
            have f27 := getD_form e27
            have e29 : a1.tmps.getD 29 undef = _ := h29
            have f29 := getD_form e29
            clear h27 h29
            go_simp; go_at_call 45; (with_reducible refine (CK.out _).mono ?_); rintro e w2 ⟨rfl, hb⟩; exact left_intro rfl (Stp.of hb) trivial
          refine ⟨?_, ?_⟩
          · rintro L a1 w1 hT - - ⟨h30, -⟩   -- 5: Op.assign t30
            have e30 : a1.tmps.getD 30 undef = _ := h30
            have f30 := getD_form e30
            clear h30
            go_simp; exact left_intro rfl (Stp.refl _) trivial
          trivial
        case hmono => repeat (first | exact trivial | refine ⟨fun _ _ _ _ h => h, ?_⟩)
        case hend =>
          intro w2 hT
          rintro _ rfl _ rfl _ rfl _ rfl _ rfl _ rfl
          simp only [relEnd, Act.put, List.setIfInBounds_toArray, List.set_cons_succ, List.set_cons_zero]
          replace B0 := B0.at_ hT
          replace B1 := B1.at_ hT
          replace B2 := B2.at_ hT
          replace hB := hB.trans (Below.mono hT hB.size)
          clear hT
          have k64 := B0.cellv h64
          go_wp2
          apply wp_region_rel_below [[], [(31, some 0)], [(32, some 1)], [(10, none), (33, some 2)], [(11, none), (33, some 2)], [(34, some 3), (35, some 4), (33, some 2)], [(33, some 2), (36, some 5)], [(37, some 6)], [(11, none), (38, some 7)], [(39, some 8), (38, some 7)], [(40, some 9), (38, some 7)], [(9, none), (41, some 10)], [(41, some 10)], [(4, none), (41, some 10)], [(44, some 13), (41, some 10)], [(45, some 14), (41, some 10)], [(43, some 12), (46, some 15), (41, some 10)], [(5, none), (41, some 10)], [(48, some 17), (41, some 10)], [(49, some 18), (41, some 10)], [(47, some 16), (50, some 19), (41, some 10)], [(42, some 11), (51, some 20), (41, some 10)], [(41, some 10), (52, some 21), (38, some 7)], [(38, some 7), (53, some 22)], [(54, some 23)], [(11, none), (55, some 24)], [(56, some 25), (55, some 24)], [(57, some 26), (55, some 24)], [(9, none), (58, some 27)], [(59, some 28), (58, some 27)], [(58, some 27), (60, some 29), (55, some 24)], [(55, some 24), (61, some 30)]] [eqv _, eqv _, eqv _, eqv _, eqv _, eqv _, eqv _, eqv _, eqv _, eqv _, eqv _, eqv _, eqv _, eqv _, eqv _, eqv _, eqv _, eqv _, eqv _, eqv _, eqv _, eqv _, eqv _, eqv _, eqv _, eqv _, eqv _, eqv _, eqv _, eqv _, eqv _, eqv _] (by kernel_rfl) (by kernel_rfl)
          case hobs =>
            refine ⟨?_, ?_⟩
            · rintro L a1 w1 hT - - -   -- 0: Op.call { value (Operand.func 47), args := #[], argTypes := #[] }
              go_simp; go_at_call 47; (with_reducible refine (AA.out _).mono ?_); rintro e w2 ⟨rfl, hb⟩; exact left_intro rfl (Stp.of hb) trivial
            refine ⟨?_, ?_⟩
            · rintro L a1 w1 hT - - ⟨h31, -⟩   -- 1: Op.unOp UnOp.not 4 t31
              have e31 : a1.tmps.getD 31 undef = _ := h31
              have f31 := getD_form e31
              clear h31
              go_simp; exact left_intro rfl (Stp.refl _) trivial
            refine ⟨?_, ?_⟩
            · rintro L a1 w1 hT - - ⟨h32, -⟩   -- 2: Op.move t32
              have e32 : a1.tmps.getD 32 undef = _ := h32
              have f32 := getD_form e32
              clear h32
              go_simp; exact left_intro rfl (Stp.refl _) trivial
            refine ⟨?_, ?_⟩
            · rintro L a1 w1 hT - - ⟨h10, h33, -⟩   -- 3: Op.move t10
              have e10 : a1.tmps.getD 10 undef = _ := h10
              have f10 := getD_form e10
              have e33 : a1.tmps.getD 33 undef = _ := h33
              have f33 := getD_form e33
              clear h10 h33
              refine ⟨false, 33, by rfl, e33, ?_⟩; rw [if_pos rfl]
              go_simp; exact left_intro rfl (Stp.refl _) trivial
            refine ⟨?_, ?_⟩
            · rintro L a1 w1 hT - - ⟨h11, h33, -⟩   -- 4: Op.move t11
              have e11 : a1.tmps.getD 11 undef = _ := h11
              have f11 := getD_form e11
              have e33 : a1.tmps.getD 33 undef = _ := h33
              have f33 := getD_form e33
              clear h11 h33
              refine ⟨false, 33, by rfl, e33, ?_⟩; rw [if_pos rfl]
              go_simp; exact left_intro rfl (Stp.refl _) trivial
            refine ⟨?_, ?_⟩
            · rintro L a1 w1 hT - - ⟨h34, h35, h33, -⟩   -- 5: Op.binOp BinOp.neq 3 t34 t35 3
              have e34 : a1.tmps.getD 34 undef = _ := h34
              have f34 := getD_form e34
              have e35 : a1.tmps.getD 35 undef = _ := h35
              have f35 := getD_form e35
              have e33 : a1.tmps.getD 33 undef = _ := h33
              have f33 := getD_form e33
              clear h34 h35 h33
              refine ⟨false, 33, by rfl, e33, ?_⟩; rw [if_pos rfl]
              go_simp; exact left_intro rfl (Stp.refl _) trivial
            refine ⟨?_, ?_⟩
            · rintro L a1 w1 hT - - ⟨h33, h36, -⟩   -- 6: Op.pick t33 (const (Value.bool true)) t36
              have e33 : a1.tmps.getD 33 undef = _ := h33
              have f33 := getD_form e33
              have e36 : a1.tmps.getD 36 undef = _ := h36
              have f36 := getD_form e36
              clear h33 h36
              go_simp; exact left_intro rfl (Stp.refl _) trivial
            refine ⟨?_, ?_⟩
            · rintro L a1 w1 hT - - ⟨h37, -⟩   -- 7: Op.move t37
              have e37 : a1.tmps.getD 37 undef = _ := h37
              have f37 := getD_form e37
              clear h37
              go_simp; exact left_intro rfl (Stp.refl _) trivial
            refine ⟨?_, ?_⟩
            · rintro L a1 w1 hT - - ⟨h11, h38, -⟩   -- 8: Op.move t11
              have e11 : a1.tmps.getD 11 undef = _ := h11
              have f11 := getD_form e11
              have e38 : a1.tmps.getD 38 undef = _ := h38
              have f38 := getD_form e38
              clear h11 h38
              refine ⟨false, 38, by rfl, e38, ?_⟩; rw [if_pos rfl]
              go_simp; exact left_intro rfl (Stp.refl _) trivial
            refine ⟨?_, ?_⟩
            · rintro L a1 w1 hT - - ⟨h39, h38, -⟩   -- 9: Op.binOp BinOp.eql 3 t39 (const (0:i64)) 3
              have e39 : a1.tmps.getD 39 undef = _ := h39
              have f39 := getD_form e39
              have e38 : a1.tmps.getD 38 undef = _ := h38
              have f38 := getD_form e38
              clear h39 h38
              refine ⟨false, 38, by rfl, e38, ?_⟩; rw [if_pos rfl]
              go_simp; exact left_intro rfl (Stp.refl _) trivial
            refine ⟨?_, ?_⟩
            · rintro L a1 w1 hT - - ⟨h40, h38, -⟩   -- 10: Op.move t40
              have e40 : a1.tmps.getD 40 undef = _ := h40
              have f40 := getD_form e40
              have e38 : a1.tmps.getD 38 undef = _ := h38
              have f38 := getD_form e38
              clear h40 h38
              refine ⟨false, 38, by rfl, e38, ?_⟩; rw [if_pos rfl]
              go_simp; exact left_intro rfl (Stp.refl _) trivial
            refine ⟨?_, ?_⟩
            · rintro L a1 w1 hT - - ⟨h9, h41, -⟩   -- 11: Op.move t9
              have e9 : a1.tmps.getD 9 undef = _ := h9
              have f9 := getD_form e9
              have e41 : a1.tmps.getD 41 undef = _ := h41
              have f41 := getD_form e41
              clear h9 h41
              refine ⟨true, 41, by rfl, e41, ?_⟩; rw [if_pos rfl]
              go_simp; exact left_intro rfl (Stp.refl _) trivial
            refine ⟨?_, ?_⟩
            · rintro L a1 w1 hT - - ⟨h41, -⟩   -- 12: Op.call { value (Operand.func 48), args := #[const (Value.bool true)], argTypes := #[4] }
              have e41 : a1.tmps.getD 41 undef = _ := h41
              have f41 := getD_form e41
              clear h41
              refine ⟨true, 41, by rfl, e41, ?_⟩; rw [if_pos rfl]
              go_simp; go_at_call 48; (with_reducible refine (FF.out _).mono ?_); rintro e w2 ⟨rfl, hb⟩; exact left_intro rfl (Stp.of hb) trivial
            refine ⟨?_, ?_⟩
            · rintro L a1 w1 hT - - ⟨h4, h41, -⟩   -- 13: Op.load 65 t4
              have e4 : a1.tmps.getD 4 undef = _ := h4
              have f4 := getD_form e4
              have e41 : a1.tmps.getD 41 undef = _ := h41
              have f41 := getD_form e41
              clear h4 h41
              refine ⟨true, 41, by rfl, e41, ?_⟩; rw [if_pos rfl]
              exact wp_load_blkL 65 (.tmp 4) rfl _ e4 (cs := itemC _ p0 s0 _) B1 hT _ Try.underlying65 (by rfl) hz1 (left_intro rfl (Stp.refl _) trivial)
            refine ⟨?_, ?_⟩
            · rintro L a1 w1 hT - - ⟨h44, h41, -⟩   -- 14: Op.call { value (Operand.func 46), args := #[t44], argTypes := #[65] }
              have e44 : a1.tmps.getD 44 undef = _ := h44
              have f44 := getD_form e44
              have e41 : a1.tmps.getD 41 undef = _ := h41
              have f41 := getD_form e41
              clear h44 h41
              refine ⟨true, 41, by rfl, e41, ?_⟩; rw [if_pos rfl]
              go_simp; go_at_call 46; (with_reducible refine (T0.out _).mono ?_); rintro e w2 ⟨rfl, hb⟩; exact left_intro rfl (Stp.of hb) trivial
            refine ⟨?_, ?_⟩
            · rintro L a1 w1 hT - - ⟨h45, h41, -⟩   -- 15: Op.call { value (Operand.func 49), args := #[t45], argTypes := #[72] }
              have e45 : a1.tmps.getD 45 undef = _ := h45
              have f45 := getD_form e45
              have e41 : a1.tmps.getD 41 undef = _ := h41
              have f41 := getD_form e41
              clear h45 h41
              refine ⟨true, 41, by rfl, e41, ?_⟩; rw [if_pos rfl]
              go_simp; go_at_call 49; (with_reducible refine (W0.out _).mono ?_); rintro e w2 ⟨rfl, hb⟩; exact left_intro rfl (Stp.of hb) trivial
            refine ⟨?_, ?_⟩
            · rintro L a1 w1 hT - - ⟨h43, h46, h41, -⟩   -- 16: Op.binOp BinOp.add 9 t43 t46 9
              have e43 : a1.tmps.getD 43 undef = _ := h43
              have f43 := getD_form e43
              have e46 : a1.tmps.getD 46 undef = _ := h46
              have f46 := getD_form e46
              have e41 : a1.tmps.getD 41 undef = _ := h41
              have f41 := getD_form e41
              clear h43 h46 h41
              refine ⟨true, 41, by rfl, e41, ?_⟩; rw [if_pos rfl]
              go_simp; exact left_intro rfl (Stp.refl _) trivial
            refine ⟨?_, ?_⟩
            · rintro L a1 w1 hT - - ⟨h5, h41, -⟩   -- 17: Op.load 65 t5
              have e5 : a1.tmps.getD 5 undef = _ := h5
              have f5 := getD_form e5
              have e41 : a1.tmps.getD 41 undef = _ := h41
              have f41 := getD_form e41
              clear h5 h41
              refine ⟨true, 41, by rfl, e41, ?_⟩; rw [if_pos rfl]
              exact wp_load_blkL 65 (.tmp 5) rfl _ e5 (cs := itemC _ p1 s1 _) B2 hT _ Try.underlying65 (by rfl) hz2 (left_intro rfl (Stp.refl _) trivial)
            refine ⟨?_, ?_⟩
            · rintro L a1 w1 hT - - ⟨h48, h41, -⟩   -- 18: Op.call { value (Operand.func 46), args := #[t48], argTypes := #[65] }
              have e48 : a1.tmps.getD 48 undef = _ := h48
              have f48 := getD_form e48
              have e41 : a1.tmps.getD 41 undef = _ := h41
              have f41 := getD_form e41
              clear h48 h41
              refine ⟨true, 41, by rfl, e41, ?_⟩; rw [if_pos rfl]
              go_simp; go_at_call 46; (with_reducible refine (T1.out _).mono ?_); rintro e w2 ⟨rfl, hb⟩; exact left_intro rfl (Stp.of hb) trivial
            refine ⟨?_, ?_⟩
            · rintro L a1 w1 hT - - ⟨h49, h41, -⟩   -- 19: Op.call { value (Operand.func 49), args := #[t49], argTypes := #[72] }
              have e49 : a1.tmps.getD 49 undef = _ := h49
              have f49 := getD_form e49
              have e41 : a1.tmps.getD 41 undef = _ := h41
              have f41 := getD_form e41
              clear h49 h41
              refine ⟨true, 41, by rfl, e41, ?_⟩; rw [if_pos rfl]
              go_simp; go_at_call 49; (with_reducible refine (W1.out _).mono ?_); rintro e w2 ⟨rfl, hb⟩; exact left_intro rfl (Stp.of hb) trivial
            refine ⟨?_, ?_⟩
            · rintro L a1 w1 hT - - ⟨h47, h50, h41, -⟩   -- 20: Op.binOp BinOp.add 9 t47 t50 9
              have e47 : a1.tmps.getD 47 undef = _ := h47
              have f47 := getD_form e47
              have e50 : a1.tmps.getD 50 undef = _ := h50
              have f50 := getD_form e50
              have e41 : a1.tmps.getD 41 undef = _ := h41
              have f41 := getD_form e41
              clear h47 h50 h41
              refine ⟨true, 41, by rfl, e41, ?_⟩; rw [if_pos rfl]
              go_simp; exact left_intro rfl (Stp.refl _) trivial
            refine ⟨?_, ?_⟩
            · rintro L a1 w1 hT - - ⟨h42, h51, h41, -⟩   -- 21: Op.binOp BinOp.neq 9 t42 t51 9
              have e42 : a1.tmps.getD 42 undef = _ := h42
              have f42 := getD_form e42
              have e51 : a1.tmps.getD 51 undef = _ := h51
              have f51 := getD_form e51
              have e41 : a1.tmps.getD 41 undef = _ := h41
              have f41 := getD_form e41
              clear h42 h51 h41
              refine ⟨true, 41, by rfl, e41, ?_⟩; rw [if_pos rfl]
              go_simp; exact left_intro rfl (Stp.refl _) trivial
            refine ⟨?_, ?_⟩
            · rintro L a1 w1 hT - - ⟨h41, h52, h38, -⟩   -- 22: Op.pick t41 t52 (const (Value.bool false))
              have e41 : a1.tmps.getD 41 undef = _ := h41
              have f41 := getD_form e41
              have e52 : a1.tmps.getD 52 undef = _ := h52
              have f52 := getD_form e52
              have e38 : a1.tmps.getD 38 undef = _ := h38
              have f38 := getD_form e38
              clear h41 h52 h38
              refine ⟨false, 38, by rfl, e38, ?_⟩; rw [if_pos rfl]
              go_simp; exact left_intro rfl (Stp.refl _) trivial
            refine ⟨?_, ?_⟩
            · rintro L a1 w1 hT - - ⟨h38, h53, -⟩   -- 23: Op.pick t38 (const (Value.bool true)) t53
              have e38 : a1.tmps.getD 38 undef = _ := h38
              have f38 := getD_form e38
              have e53 : a1.tmps.getD 53 undef = _ := h53
              have f53 := getD_form e53
              clear h38 h53
              go_simp; exact left_intro rfl (Stp.refl _) trivial
            refine ⟨?_, ?_⟩
            · rintro L a1 w1 hT - - ⟨h54, -⟩   -- 24: Op.move t54
              have e54 : a1.tmps.getD 54 undef = _ := h54
              have f54 := getD_form e54
              clear h54
              go_simp; exact left_intro rfl (Stp.refl _) trivial
            refine ⟨?_, ?_⟩
            · rintro L a1 w1 hT - - ⟨h11, h55, -⟩   -- 25: Op.move t11
              have e11 : a1.tmps.getD 11 undef = _ := h11
              have f11 := getD_form e11
              have e55 : a1.tmps.getD 55 undef = _ := h55
              have f55 := getD_form e55
              clear h11 h55
              refine ⟨false, 55, by rfl, e55, ?_⟩; rw [if_pos rfl]
              go_simp; exact left_intro rfl (Stp.refl _) trivial
            refine ⟨?_, ?_⟩
            · rintro L a1 w1 hT - - ⟨h56, h55, -⟩   -- 26: Op.binOp BinOp.neq 3 t56 (const (0:i64)) 3
              have e56 : a1.tmps.getD 56 undef = _ := h56
              have f56 := getD_form e56
              have e55 : a1.tmps.getD 55 undef = _ := h55
              have f55 := getD_form e55
              clear h56 h55
              refine ⟨false, 55, by rfl, e55, ?_⟩; rw [if_pos rfl]
              go_simp; exact left_intro rfl (Stp.refl _) trivial
            refine ⟨?_, ?_⟩
            · rintro L a1 w1 hT - - ⟨h57, h55, -⟩   -- 27: Op.move t57
              have e57 : a1.tmps.getD 57 undef = _ := h57
              have f57 := getD_form e57
              have e55 : a1.tmps.getD 55 undef = _ := h55
              have f55 := getD_form e55
              clear h57 h55
              refine ⟨false, 55, by rfl, e55, ?_⟩; rw [if_pos rfl]
              go_simp; exact left_intro rfl (Stp.refl _) trivial
            refine ⟨?_, ?_⟩
            · rintro L a1 w1 hT - - ⟨h9, h58, -⟩   -- 28: Op.move t9
              have e9 : a1.tmps.getD 9 undef = _ := h9
              have f9 := getD_form e9
              have e58 : a1.tmps.getD 58 undef = _ := h58
              have f58 := getD_form e58
              clear h9 h58
              refine ⟨false, 58, by rfl, e58, ?_⟩; rw [if_neg (by decide)]
              exact left_intro rfl (Stp.refl _) trivial
            refine ⟨?_, ?_⟩
            · rintro L a1 w1 hT - - ⟨h59, h58, -⟩   -- 29: Op.binOp BinOp.neq 9 t59 (const (Value.string { data := #[] })) 9
              have e59 : a1.tmps.getD 59 undef = _ := h59
              have f59 := getD_form e59
              have e58 : a1.tmps.getD 58 undef = _ := h58
              have f58 := getD_form e58
              clear h59 h58
              refine ⟨false, 58, by rfl, e58, ?_⟩; rw [if_neg (by decide)]
              exact left_intro rfl (Stp.refl _) trivial
            refine ⟨?_, ?_⟩
            · rintro L a1 w1 hT - - ⟨h58, h60, h55, -⟩   -- 30: Op.pick t58 t60 (const (Value.bool false))
              have e58 : a1.tmps.getD 58 undef = _ := h58
              have f58 := getD_form e58
              have e60 : a1.tmps.getD 60 undef = _ := h60
              have f60 := getD_form e60
              have e55 : a1.tmps.getD 55 undef = _ := h55
              have f55 := getD_form e55
              clear h58 h60 h55
              refine ⟨false, 55, by rfl, e55, ?_⟩; rw [if_pos rfl]
              go_simp; exact left_intro rfl (Stp.refl _) trivial
            refine ⟨?_, ?_⟩
            · rintro L a1 w1 hT - - ⟨h55, h61, -⟩   -- 31: Op.pick t55 (const (Value.bool true)) t61
              have e55 : a1.tmps.getD 55 undef = _ := h55
              have f55 := getD_form e55
              have e61 : a1.tmps.getD 61 undef = _ := h61
              have f61 := getD_form e61
              clear h55 h61
              go_simp; exact left_intro rfl (Stp.refl _) trivial
            trivial
          case hmono => repeat (first | exact trivial | refine ⟨fun _ _ _ _ h => h, ?_⟩)
          case hend =>
            intro w2 hT
            rintro _ rfl _ rfl _ rfl _ rfl _ rfl _ rfl _ rfl _ rfl _ rfl _ rfl _ rfl _ rfl _ rfl _ rfl _ rfl _ rfl _ rfl _ rfl _ rfl _ rfl _ rfl _ rfl _ rfl _ rfl _ rfl _ rfl _ rfl _ rfl _ rfl _ rfl _ rfl _ rfl
            simp only [relEnd, Act.put, List.setIfInBounds_toArray, List.set_cons_succ, List.set_cons_zero]
            replace B0 := B0.at_ hT
            replace B1 := B1.at_ hT
            replace B2 := B2.at_ hT
            replace hB := hB.trans (Below.mono hT hB.size)
            clear hT
            have k64 := B0.cellv h64
            go_wp2
            go_ret
            exact ⟨rfl, hB⟩
      · have d2 : decide (1073741824 < i) = false := by simp; omega
        have d2' : decide (i > 1073741824) = false := by simp; omega
        obtain ⟨k, rfl⟩ : ∃ k : Nat, i = k := ⟨i.toNat, by omega⟩
        have hE : D.leafE k = 0 := by unfold D.leafE; rw [if_pos (by omega)]
        have hO : D.leafO l v (k : Int) = D.leafW l v k := by unfold D.leafO; rw [if_pos hE]; rfl
        rw [hO, hE] at BL
        have LT := Lib.hid (fun W => rleafW_any l v k (by omega) hl hv W)
        have hlw : (D.leafW l v k == D.leafW l v k) = true := beq_self_eq_true _
        generalize D.leafW l v k = lw at *
        clear hO hE
        go_enter Try.func13, Try.ntmps13
        go_wp2_with (first | (refine wpList_load_blk (by rfl) 61 (.tmp 3) (by rfl) 0 (by rfl) (B0) ((leafC l v _).toArray) whole_at _ Try.underlying61 (by rfl) hz0' ?_; simp only [Act.put, List.setIfInBounds_toArray, List.set_cons_succ, List.set_cons_zero]) | (refine wpList_load_blk (by rfl) 65 (.tmp 4) (by rfl) 0 (by rfl) (B1) ((itemC _ p0 s0 _).toArray) whole_at _ Try.underlying65 (by rfl) hz1' ?_; simp only [Act.put, List.setIfInBounds_toArray, List.set_cons_succ, List.set_cons_zero]) | (refine wpList_load_blk (by rfl) 65 (.tmp 5) (by rfl) 0 (by rfl) (B2) ((itemC _ p1 s1 _).toArray) whole_at _ Try.underlying65 (by rfl) hz2' ?_; simp only [Act.put, List.setIfInBounds_toArray, List.set_cons_succ, List.set_cons_zero]) | (refine wpList_build (by rfl) 69 ([(0, .tmp 19), (1, .tmp 20)]) (by rfl) ([(0, .agg (itemC _ p0 s0 _).toArray), (1, .agg (itemC _ p1 s1 _).toArray)]) (by rfl) (.agg (innerC _ p0 s0 _ _ p1 s1 _).toArray) (hbd) ?_; simp only [Act.put, List.setIfInBounds_toArray, List.set_cons_succ, List.set_cons_zero]) | (go_at_call 44; first | ((with_reducible refine (BL.out _).mono ?_); rintro e w1 ⟨rfl, h1⟩; replace B0 := B0.at_ h1; replace B1 := B1.at_ h1; replace B2 := B2.at_ h1; replace hB := hB.trans (h1.mono hB.size); clear h1) | ((with_reducible refine (BI.out _).mono ?_); rintro e w1 ⟨rfl, h1⟩; replace B0 := B0.at_ h1; replace B1 := B1.at_ h1; replace B2 := B2.at_ h1; replace hB := hB.trans (h1.mono hB.size); clear h1)))
        apply wp_region_rel_below [[(4, none)], [(26, some 0)], [(5, none)], [(28, some 2)], [(27, some 1), (29, some 3)], [(30, some 4)]] [eqv _, eqv _, eqv _, eqv _, eqv _, eqv _] (by kernel_rfl) (by kernel_rfl)
        case hobs =>
          refine ⟨?_, ?_⟩
          · rintro L a1 w1 hT - - ⟨h4, -⟩   -- 0: Op.load 65 t4
            have e4 : a1.tmps.getD 4 undef = _ := h4
            have f4 := getD_form e4
            clear h4
            exact wp_load_blkL 65 (.tmp 4) rfl _ e4 (cs := itemC _ p0 s0 _) B1 hT _ Try.underlying65 (by rfl) hz1 (left_intro rfl (Stp.refl _) trivial)
          refine ⟨?_, ?_⟩
          · rintro L a1 w1 hT - - ⟨h26, -⟩   -- 1: Op.call { value (Operand.func 46), args := #[t26], argTypes := #[65] }
            have e26 : a1.tmps.getD 26 undef = _ := h26
            have f26 := getD_form e26
            clear h26
            go_simp; go_at_call 46; (with_reducible refine (T0.out _).mono ?_); rintro e w2 ⟨rfl, hb⟩; exact left_intro rfl (Stp.of hb) trivial
          refine ⟨?_, ?_⟩
          · rintro L a1 w1 hT - - ⟨h5, -⟩   -- 2: Op.load 65 t5
            have e5 : a1.tmps.getD 5 undef = _ := h5
            have f5 := getD_form e5
            clear h5
            exact wp_load_blkL 65 (.tmp 5) rfl _ e5 (cs := itemC _ p1 s1 _) B2 hT _ Try.underlying65 (by rfl) hz2 (left_intro rfl (Stp.refl _) trivial)
          refine ⟨?_, ?_⟩
          · rintro L a1 w1 hT - - ⟨h28, -⟩   -- 3: Op.call { value (Operand.func 46), args := #[t28], argTypes := #[65] }
            have e28 : a1.tmps.getD 28 undef = _ := h28
            have f28 := getD_form e28
            clear h28
            go_simp; go_at_call 46; (with_reducible refine (T1.out _).mono ?_); rintro e w2 ⟨rfl, hb⟩; exact left_intro rfl (Stp.of hb) trivial
          refine ⟨?_, ?_⟩
          · rintro L a1 w1 hT - - ⟨h27, h29, -⟩   -- 4: Op.call { value (Operand.func 45), args := #[t27, t29], argTypes := #[72, 72] }
            have e27 : a1.tmps.getD 27 undef = _ := h27
            have f27 := getD_form e27
            have e29 : a1.tmps.getD 29 undef = _ := h29
            have f29 := getD_form e29
            clear h27 h29
            go_simp; go_at_call 45; (with_reducible refine (CK.out _).mono ?_); rintro e w2 ⟨rfl, hb⟩; exact left_intro rfl (Stp.of hb) trivial
          refine ⟨?_, ?_⟩
          · rintro L a1 w1 hT - - ⟨h30, -⟩   -- 5: Op.assign t30
            have e30 : a1.tmps.getD 30 undef = _ := h30
            have f30 := getD_form e30
            clear h30
            go_simp; exact left_intro rfl (Stp.refl _) trivial
          trivial
        case hmono => repeat (first | exact trivial | refine ⟨fun _ _ _ _ h => h, ?_⟩)
        case hend =>
          intro w2 hT
          rintro _ rfl _ rfl _ rfl _ rfl _ rfl _ rfl
          simp only [relEnd, Act.put, List.setIfInBounds_toArray, List.set_cons_succ, List.set_cons_zero]
          replace B0 := B0.at_ hT
          replace B1 := B1.at_ hT
          replace B2 := B2.at_ hT
          replace hB := hB.trans (Below.mono hT hB.size)
          clear hT
          have k64 := B0.cellv h64
          go_wp2
          apply wp_region_rel_below [[], [(31, some 0)], [(32, some 1)], [(10, none), (33, some 2)], [(11, none), (33, some 2)], [(34, some 3), (35, some 4), (33, some 2)], [(33, some 2), (36, some 5)], [(37, some 6)], [(11, none), (38, some 7)], [(39, some 8), (38, some 7)], [(40, some 9), (38, some 7)], [(9, none), (41, some 10)], [(41, some 10)], [(4, none), (41, some 10)], [(44, some 13), (41, some 10)], [(45, some 14), (41, some 10)], [(43, some 12), (46, some 15), (41, some 10)], [(5, none), (41, some 10)], [(48, some 17), (41, some 10)], [(49, some 18), (41, some 10)], [(47, some 16), (50, some 19), (41, some 10)], [(42, some 11), (51, some 20), (41, some 10)], [(41, some 10), (52, some 21), (38, some 7)], [(38, some 7), (53, some 22)], [(54, some 23)], [(11, none), (55, some 24)], [(56, some 25), (55, some 24)], [(57, some 26), (55, some 24)], [(9, none), (58, some 27)], [(59, some 28), (58, some 27)], [(58, some 27), (60, some 29), (55, some 24)], [(55, some 24), (61, some 30)]] [eqv _, eqv _, eqv _, eqv _, eqv _, eqv _, eqv _, eqv _, eqv _, eqv _, eqv _, eqv _, eqv _, eqv _, eqv _, eqv _, eqv _, eqv _, eqv _, eqv _, eqv _, eqv _, eqv _, eqv _, eqv _, eqv _, eqv _, eqv _, eqv _, eqv _, eqv _, eqv _] (by kernel_rfl) (by kernel_rfl)
          case hobs =>
            refine ⟨?_, ?_⟩
            · rintro L a1 w1 hT - - -   -- 0: Op.call { value (Operand.func 47), args := #[], argTypes := #[] }
              go_simp; go_at_call 47; (with_reducible refine (AA.out _).mono ?_); rintro e w2 ⟨rfl, hb⟩; exact left_intro rfl (Stp.of hb) trivial
            refine ⟨?_, ?_⟩
            · rintro L a1 w1 hT - - ⟨h31, -⟩   -- 1: Op.unOp UnOp.not 4 t31
              have e31 : a1.tmps.getD 31 undef = _ := h31
              have f31 := getD_form e31
              clear h31
              go_simp; exact left_intro rfl (Stp.refl _) trivial
            refine ⟨?_, ?_⟩
            · rintro L a1 w1 hT - - ⟨h32, -⟩   -- 2: Op.move t32
              have e32 : a1.tmps.getD 32 undef = _ := h32
              have f32 := getD_form e32
              clear h32
              go_simp; exact left_intro rfl (Stp.refl _) trivial
            refine ⟨?_, ?_⟩
            · rintro L a1 w1 hT - - ⟨h10, h33, -⟩   -- 3: Op.move t10
              have e10 : a1.tmps.getD 10 undef = _ := h10
              have f10 := getD_form e10
              have e33 : a1.tmps.getD 33 undef = _ := h33
              have f33 := getD_form e33
              clear h10 h33
              refine ⟨false, 33, by rfl, e33, ?_⟩; rw [if_pos rfl]
              go_simp; exact left_intro rfl (Stp.refl _) trivial
            refine ⟨?_, ?_⟩
            · rintro L a1 w1 hT - - ⟨h11, h33, -⟩   -- 4: Op.move t11
              have e11 : a1.tmps.getD 11 undef = _ := h11
              have f11 := getD_form e11
              have e33 : a1.tmps.getD 33 undef = _ := h33
              have f33 := getD_form e33
              clear h11 h33
              refine ⟨false, 33, by rfl, e33, ?_⟩; rw [if_pos rfl]
              go_simp; exact left_intro rfl (Stp.refl _) trivial
            refine ⟨?_, ?_⟩
            · rintro L a1 w1 hT - - ⟨h34, h35, h33, -⟩   -- 5: Op.binOp BinOp.neq 3 t34 t35 3
              have e34 : a1.tmps.getD 34 undef = _ := h34
              have f34 := getD_form e34
              have e35 : a1.tmps.getD 35 undef = _ := h35
              have f35 := getD_form e35
              have e33 : a1.tmps.getD 33 undef = _ := h33
              have f33 := getD_form e33
              clear h34 h35 h33
              refine ⟨false, 33, by rfl, e33, ?_⟩; rw [if_pos rfl]
              go_simp; exact left_intro rfl (Stp.refl _) trivial
            refine ⟨?_, ?_⟩
            · rintro L a1 w1 hT - - ⟨h33, h36, -⟩   -- 6: Op.pick t33 (const (Value.bool true)) t36
              have e33 : a1.tmps.getD 33 undef = _ := h33
              have f33 := getD_form e33
              have e36 : a1.tmps.getD 36 undef = _ := h36
              have f36 := getD_form e36
              clear h33 h36
              go_simp; exact left_intro rfl (Stp.refl _) trivial
            refine ⟨?_, ?_⟩
            · rintro L a1 w1 hT - - ⟨h37, -⟩   -- 7: Op.move t37
              have e37 : a1.tmps.getD 37 undef = _ := h37
              have f37 := getD_form e37
              clear h37
              go_simp; exact left_intro rfl (Stp.refl _) trivial
            refine ⟨?_, ?_⟩
            · rintro L a1 w1 hT - - ⟨h11, h38, -⟩   -- 8: Op.move t11
              have e11 : a1.tmps.getD 11 undef = _ := h11
              have f11 := getD_form e11
              have e38 : a1.tmps.getD 38 undef = _ := h38
              have f38 := getD_form e38
              clear h11 h38
              refine ⟨false, 38, by rfl, e38, ?_⟩; rw [if_pos rfl]
              go_simp; exact left_intro rfl (Stp.refl _) trivial
            refine ⟨?_, ?_⟩
            · rintro L a1 w1 hT - - ⟨h39, h38, -⟩   -- 9: Op.binOp BinOp.eql 3 t39 (const (0:i64)) 3
              have e39 : a1.tmps.getD 39 undef = _ := h39
              have f39 := getD_form e39
              have e38 : a1.tmps.getD 38 undef = _ := h38
              have f38 := getD_form e38
              clear h39 h38
              refine ⟨false, 38, by rfl, e38, ?_⟩; rw [if_pos rfl]
              go_simp; exact left_intro rfl (Stp.refl _) trivial
            refine ⟨?_, ?_⟩
            · rintro L a1 w1 hT - - ⟨h40, h38, -⟩   -- 10: Op.move t40
              have e40 : a1.tmps.getD 40 undef = _ := h40
              have f40 := getD_form e40
              have e38 : a1.tmps.getD 38 undef = _ := h38
              have f38 := getD_form e38
              clear h40 h38
              refine ⟨false, 38, by rfl, e38, ?_⟩; rw [if_pos rfl]
              go_simp; exact left_intro rfl (Stp.refl _) trivial
            refine ⟨?_, ?_⟩
            · rintro L a1 w1 hT - - ⟨h9, h41, -⟩   -- 11: Op.move t9
              have e9 : a1.tmps.getD 9 undef = _ := h9
              have f9 := getD_form e9
              have e41 : a1.tmps.getD 41 undef = _ := h41
              have f41 := getD_form e41
              clear h9 h41
              refine ⟨true, 41, by rfl, e41, ?_⟩; rw [if_pos rfl]
              go_simp; exact left_intro rfl (Stp.refl _) trivial
            refine ⟨?_, ?_⟩
            · rintro L a1 w1 hT - - ⟨h41, -⟩   -- 12: Op.call { value (Operand.func 48), args := #[const (Value.bool true)], argTypes := #[4] }
              have e41 : a1.tmps.getD 41 undef = _ := h41
              have f41 := getD_form e41
              clear h41
              refine ⟨true, 41, by rfl, e41, ?_⟩; rw [if_pos rfl]
              go_simp; go_at_call 48; (with_reducible refine (FF.out _).mono ?_); rintro e w2 ⟨rfl, hb⟩; exact left_intro rfl (Stp.of hb) trivial
            refine ⟨?_, ?_⟩
            · rintro L a1 w1 hT - - ⟨h4, h41, -⟩   -- 13: Op.load 65 t4
              have e4 : a1.tmps.getD 4 undef = _ := h4
              have f4 := getD_form e4
              have e41 : a1.tmps.getD 41 undef = _ := h41
              have f41 := getD_form e41
              clear h4 h41
              refine ⟨true, 41, by rfl, e41, ?_⟩; rw [if_pos rfl]
              exact wp_load_blkL 65 (.tmp 4) rfl _ e4 (cs := itemC _ p0 s0 _) B1 hT _ Try.underlying65 (by rfl) hz1 (left_intro rfl (Stp.refl _) trivial)
            refine ⟨?_, ?_⟩
            · rintro L a1 w1 hT - - ⟨h44, h41, -⟩   -- 14: Op.call { value (Operand.func 46), args := #[t44], argTypes := #[65] }
              have e44 : a1.tmps.getD 44 undef = _ := h44
              have f44 := getD_form e44
              have e41 : a1.tmps.getD 41 undef = _ := h41
              have f41 := getD_form e41
              clear h44 h41
              refine ⟨true, 41, by rfl, e41, ?_⟩; rw [if_pos rfl]
              go_simp; go_at_call 46; (with_reducible refine (T0.out _).mono ?_); rintro e w2 ⟨rfl, hb⟩; exact left_intro rfl (Stp.of hb) trivial
            refine ⟨?_, ?_⟩
            · rintro L a1 w1 hT - - ⟨h45, h41, -⟩   -- 15: Op.call { value (Operand.func 49), args := #[t45], argTypes := #[72] }
              have e45 : a1.tmps.getD 45 undef = _ := h45
              have f45 := getD_form e45
              have e41 : a1.tmps.getD 41 undef = _ := h41
              have f41 := getD_form e41
              clear h45 h41
              refine ⟨true, 41, by rfl, e41, ?_⟩; rw [if_pos rfl]
              go_simp; go_at_call 49; (with_reducible refine (W0.out _).mono ?_); rintro e w2 ⟨rfl, hb⟩; exact left_intro rfl (Stp.of hb) trivial
            refine ⟨?_, ?_⟩
            · rintro L a1 w1 hT - - ⟨h43, h46, h41, -⟩   -- 16: Op.binOp BinOp.add 9 t43 t46 9
              have e43 : a1.tmps.getD 43 undef = _ := h43
              have f43 := getD_form e43
              have e46 : a1.tmps.getD 46 undef = _ := h46
              have f46 := getD_form e46
              have e41 : a1.tmps.getD 41 undef = _ := h41
              have f41 := getD_form e41
              clear h43 h46 h41
              refine ⟨true, 41, by rfl, e41, ?_⟩; rw [if_pos rfl]
              go_simp; exact left_intro rfl (Stp.refl _) trivial
            refine ⟨?_, ?_⟩
            · rintro L a1 w1 hT - - ⟨h5, h41, -⟩   -- 17: Op.load 65 t5
              have e5 : a1.tmps.getD 5 undef = _ := h5
              have f5 := getD_form e5
              have e41 : a1.tmps.getD 41 undef = _ := h41
              have f41 := getD_form e41
              clear h5 h41
              refine ⟨true, 41, by rfl, e41, ?_⟩; rw [if_pos rfl]
              exact wp_load_blkL 65 (.tmp 5) rfl _ e5 (cs := itemC _ p1 s1 _) B2 hT _ Try.underlying65 (by rfl) hz2 (left_intro rfl (Stp.refl _) trivial)
            refine ⟨?_, ?_⟩
            · rintro L a1 w1 hT - - ⟨h48, h41, -⟩   -- 18: Op.call { value (Operand.func 46), args := #[t48], argTypes := #[65] }
              have e48 : a1.tmps.getD 48 undef = _ := h48
              have f48 := getD_form e48
              have e41 : a1.tmps.getD 41 undef = _ := h41
              have f41 := getD_form e41
              clear h48 h41
              refine ⟨true, 41, by rfl, e41, ?_⟩; rw [if_pos rfl]
              go_simp; go_at_call 46; (with_reducible refine (T1.out _).mono ?_); rintro e w2 ⟨rfl, hb⟩; exact left_intro rfl (Stp.of hb) trivial
            refine ⟨?_, ?_⟩
            · rintro L a1 w1 hT - - ⟨h49, h41, -⟩   -- 19: Op.call { value (Operand.func 49), args := #[t49], argTypes := #[72] }
              have e49 : a1.tmps.getD 49 undef = _ := h49
              have f49 := getD_form e49
              have e41 : a1.tmps.getD 41 undef = _ := h41
              have f41 := getD_form e41
              clear h49 h41
              refine ⟨true, 41, by rfl, e41, ?_⟩; rw [if_pos rfl]
              go_simp; go_at_call 49; (with_reducible refine (W1.out _).mono ?_); rintro e w2 ⟨rfl, hb⟩; exact left_intro rfl (Stp.of hb) trivial
            refine ⟨?_, ?_⟩
            · rintro L a1 w1 hT - - ⟨h47, h50, h41, -⟩   -- 20: Op.binOp BinOp.add 9 t47 t50 9
              have e47 : a1.tmps.getD 47 undef = _ := h47
              have f47 := getD_form e47
              have e50 : a1.tmps.getD 50 undef = _ := h50
              have f50 := getD_form e50
              have e41 : a1.tmps.getD 41 undef = _ := h41
              have f41 := getD_form e41
              clear h47 h50 h41
              refine ⟨true, 41, by rfl, e41, ?_⟩; rw [if_pos rfl]
              go_simp; exact left_intro rfl (Stp.refl _) trivial
            refine ⟨?_, ?_⟩
            · rintro L a1 w1 hT - - ⟨h42, h51, h41, -⟩   -- 21: Op.binOp BinOp.neq 9 t42 t51 9
              have e42 : a1.tmps.getD 42 undef = _ := h42
              have f42 := getD_form e42
              have e51 : a1.tmps.getD 51 undef = _ := h51
              have f51 := getD_form e51
              have e41 : a1.tmps.getD 41 undef = _ := h41
              have f41 := getD_form e41
              clear h42 h51 h41
              refine ⟨true, 41, by rfl, e41, ?_⟩; rw [if_pos rfl]
              go_simp; exact left_intro rfl (Stp.refl _) trivial
            refine ⟨?_, ?_⟩
            · rintro L a1 w1 hT - - ⟨h41, h52, h38, -⟩   -- 22: Op.pick t41 t52 (const (Value.bool false))
              have e41 : a1.tmps.getD 41 undef = _ := h41
              have f41 := getD_form e41
              have e52 : a1.tmps.getD 52 undef = _ := h52
              have f52 := getD_form e52
              have e38 : a1.tmps.getD 38 undef = _ := h38
              have f38 := getD_form e38
              clear h41 h52 h38
              refine ⟨false, 38, by rfl, e38, ?_⟩; rw [if_pos rfl]
              go_simp; exact left_intro rfl (Stp.refl _) trivial
            refine ⟨?_, ?_⟩
            · rintro L a1 w1 hT - - ⟨h38, h53, -⟩   -- 23: Op.pick t38 (const (Value.bool true)) t53
              have e38 : a1.tmps.getD 38 undef = _ := h38
              have f38 := getD_form e38
              have e53 : a1.tmps.getD 53 undef = _ := h53
              have f53 := getD_form e53
              clear h38 h53
              go_simp; exact left_intro rfl (Stp.refl _) trivial
            refine ⟨?_, ?_⟩
            · rintro L a1 w1 hT - - ⟨h54, -⟩   -- 24: Op.move t54
              have e54 : a1.tmps.getD 54 undef = _ := h54
              have f54 := getD_form e54
              clear h54
              go_simp; exact left_intro rfl (Stp.refl _) trivial
            refine ⟨?_, ?_⟩
            · rintro L a1 w1 hT - - ⟨h11, h55, -⟩   -- 25: Op.move t11
              have e11 : a1.tmps.getD 11 undef = _ := h11
              have f11 := getD_form e11
              have e55 : a1.tmps.getD 55 undef = _ := h55
              have f55 := getD_form e55
              clear h11 h55
              refine ⟨false, 55, by rfl, e55, ?_⟩; rw [if_pos rfl]
              go_simp; exact left_intro rfl (Stp.refl _) trivial
            refine ⟨?_, ?_⟩
            · rintro L a1 w1 hT - - ⟨h56, h55, -⟩   -- 26: Op.binOp BinOp.neq 3 t56 (const (0:i64)) 3
              have e56 : a1.tmps.getD 56 undef = _ := h56
              have f56 := getD_form e56
              have e55 : a1.tmps.getD 55 undef = _ := h55
              have f55 := getD_form e55
              clear h56 h55
              refine ⟨false, 55, by rfl, e55, ?_⟩; rw [if_pos rfl]
              go_simp; exact left_intro rfl (Stp.refl _) trivial
            refine ⟨?_, ?_⟩
            · rintro L a1 w1 hT - - ⟨h57, h55, -⟩   -- 27: Op.move t57
              have e57 : a1.tmps.getD 57 undef = _ := h57
              have f57 := getD_form e57
              have e55 : a1.tmps.getD 55 undef = _ := h55
              have f55 := getD_form e55
              clear h57 h55
              refine ⟨false, 55, by rfl, e55, ?_⟩; rw [if_pos rfl]
              go_simp; exact left_intro rfl (Stp.refl _) trivial
            refine ⟨?_, ?_⟩
            · rintro L a1 w1 hT - - ⟨h9, h58, -⟩   -- 28: Op.move t9
              have e9 : a1.tmps.getD 9 undef = _ := h9
              have f9 := getD_form e9
              have e58 : a1.tmps.getD 58 undef = _ := h58
              have f58 := getD_form e58
              clear h9 h58
              refine ⟨false, 58, by rfl, e58, ?_⟩; rw [if_neg (by decide)]
              exact left_intro rfl (Stp.refl _) trivial
            refine ⟨?_, ?_⟩
            · rintro L a1 w1 hT - - ⟨h59, h58, -⟩   -- 29: Op.binOp BinOp.neq 9 t59 (const (Value.string { data := #[] })) 9
              have e59 : a1.tmps.getD 59 undef = _ := h59
              have f59 := getD_form e59
              have e58 : a1.tmps.getD 58 undef = _ := h58
              have f58 := getD_form e58
              clear h59 h58
              refine ⟨false, 58, by rfl, e58, ?_⟩; rw [if_neg (by decide)]
              exact left_intro rfl (Stp.refl _) trivial
            refine ⟨?_, ?_⟩
            · rintro L a1 w1 hT - - ⟨h58, h60, h55, -⟩   -- 30: Op.pick t58 t60 (const (Value.bool false))
              have e58 : a1.tmps.getD 58 undef = _ := h58
              have f58 := getD_form e58
              have e60 : a1.tmps.getD 60 undef = _ := h60
              have f60 := getD_form e60
              have e55 : a1.tmps.getD 55 undef = _ := h55
              have f55 := getD_form e55
              clear h58 h60 h55
              refine ⟨false, 55, by rfl, e55, ?_⟩; rw [if_pos rfl]
              go_simp; exact left_intro rfl (Stp.refl _) trivial
            refine ⟨?_, ?_⟩
            · rintro L a1 w1 hT - - ⟨h55, h61, -⟩   -- 31: Op.pick t55 (const (Value.bool true)) t61
              have e55 : a1.tmps.getD 55 undef = _ := h55
              have f55 := getD_form e55
              have e61 : a1.tmps.getD 61 undef = _ := h61
              have f61 := getD_form e61
              clear h55 h61
              go_simp; exact left_intro rfl (Stp.refl _) trivial
            trivial
          case hmono => repeat (first | exact trivial | refine ⟨fun _ _ _ _ h => h, ?_⟩)
          case hend =>
            intro w2 hT
            rintro _ rfl _ rfl _ rfl _ rfl _ rfl _ rfl _ rfl _ rfl _ rfl _ rfl _ rfl _ rfl _ rfl _ rfl _ rfl _ rfl _ rfl _ rfl _ rfl _ rfl _ rfl _ rfl _ rfl _ rfl _ rfl _ rfl _ rfl _ rfl _ rfl _ rfl _ rfl _ rfl
            simp only [relEnd, Act.put, List.setIfInBounds_toArray, List.set_cons_succ, List.set_cons_zero]
            replace B0 := B0.at_ hT
            replace B1 := B1.at_ hT
            replace B2 := B2.at_ hT
            replace hB := hB.trans (Below.mono hT hB.size)
            clear hT
            have k64 := B0.cellv h64
            go_wp2_with (first | ((refine wpList_load_blk (by rfl) 61 (.tmp 3) (by rfl) 0 (by rfl) (B0) ((leafC l v _).toArray) whole_at _ Try.underlying61 (by rfl) hz0' ?_; simp only [Act.put, List.setIfInBounds_toArray, List.set_cons_succ, List.set_cons_zero])) | ((go_at_call 50; (with_reducible refine (LT.out _).mono ?_)); rintro e w1 ⟨rfl, h1⟩; replace B0 := B0.at_ h1; replace B1 := B1.at_ h1; replace B2 := B2.at_ h1; replace hB := hB.trans (h1.mono hB.size); clear h1))
            go_ret
            exact ⟨rfl, hB⟩
  · have hO : D.innerO n0 p0 s0 t0 n1 p1 s1 t1 = [] := by unfold D.innerO; rw [if_neg hI]
    rw [hO] at BI
    rcases innerE_vals n0 p0 t0 n1 p1 t1 with h | h | h
    · exact absurd h hI
    · rw [h] at BI CK
      clear hI h hO
      by_cases c1 : i < 0
      · have d1 : decide (i < 0) = true := by simp; omega
        have hO : D.leafO l v i = [] := by unfold D.leafO D.leafE; rw [if_neg (by rw [if_neg (by omega)]; decide)]
        have hE : D.leafE i = 1 := by unfold D.leafE; rw [if_neg (by omega)]
        rw [hO, hE] at BL
        clear hO hE
        go_enter Try.func13, Try.ntmps13
        go_wp2_with (first | (refine wpList_load_blk (by rfl) 61 (.tmp 3) (by rfl) 0 (by rfl) (B0) ((leafC l v _).toArray) whole_at _ Try.underlying61 (by rfl) hz0' ?_; simp only [Act.put, List.setIfInBounds_toArray, List.set_cons_succ, List.set_cons_zero]) | (refine wpList_load_blk (by rfl) 65 (.tmp 4) (by rfl) 0 (by rfl) (B1) ((itemC _ p0 s0 _).toArray) whole_at _ Try.underlying65 (by rfl) hz1' ?_; simp only [Act.put, List.setIfInBounds_toArray, List.set_cons_succ, List.set_cons_zero]) | (refine wpList_load_blk (by rfl) 65 (.tmp 5) (by rfl) 0 (by rfl) (B2) ((itemC _ p1 s1 _).toArray) whole_at _ Try.underlying65 (by rfl) hz2' ?_; simp only [Act.put, List.setIfInBounds_toArray, List.set_cons_succ, List.set_cons_zero]) | (refine wpList_build (by rfl) 69 ([(0, .tmp 19), (1, .tmp 20)]) (by rfl) ([(0, .agg (itemC _ p0 s0 _).toArray), (1, .agg (itemC _ p1 s1 _).toArray)]) (by rfl) (.agg (innerC _ p0 s0 _ _ p1 s1 _).toArray) (hbd) ?_; simp only [Act.put, List.setIfInBounds_toArray, List.set_cons_succ, List.set_cons_zero]) | (go_at_call 44; first | ((with_reducible refine (BL.out _).mono ?_); rintro e w1 ⟨rfl, h1⟩; replace B0 := B0.at_ h1; replace B1 := B1.at_ h1; replace B2 := B2.at_ h1; replace hB := hB.trans (h1.mono hB.size); clear h1) | ((with_reducible refine (BI.out _).mono ?_); rintro e w1 ⟨rfl, h1⟩; replace B0 := B0.at_ h1; replace B1 := B1.at_ h1; replace B2 := B2.at_ h1; replace hB := hB.trans (h1.mono hB.size); clear h1)))
        apply wp_region_rel_below [[(4, none)], [(26, some 0)], [(5, none)], [(28, some 2)], [(27, some 1), (29, some 3)], [(30, some 4)]] [eqv _, eqv _, eqv _, eqv _, eqv _, eqv _] (by kernel_rfl) (by kernel_rfl)
        case hobs =>
          refine ⟨?_, ?_⟩
          · rintro L a1 w1 hT - - ⟨h4, -⟩   -- 0: Op.load 65 t4
            have e4 : a1.tmps.getD 4 undef = _ := h4
            have f4 := getD_form e4
            clear h4
            exact wp_load_blkL 65 (.tmp 4) rfl _ e4 (cs := itemC _ p0 s0 _) B1 hT _ Try.underlying65 (by rfl) hz1 (left_intro rfl (Stp.refl _) trivial)
          refine ⟨?_, ?_⟩
          · rintro L a1 w1 hT - - ⟨h26, -⟩   -- 1: Op.call { value (Operand.func 46), args := #[t26], argTypes := #[65] }
            have e26 : a1.tmps.getD 26 undef = _ := h26
            have f26 := getD_form e26
            clear h26
            go_simp; go_at_call 46; (with_reducible refine (T0.out _).mono ?_); rintro e w2 ⟨rfl, hb⟩; exact left_intro rfl (Stp.of hb) trivial
          refine ⟨?_, ?_⟩
          · rintro L a1 w1 hT - - ⟨h5, -⟩   -- 2: Op.load 65 t5
            have e5 : a1.tmps.getD 5 undef = _ := h5
            have f5 := getD_form e5
            clear h5
            exact wp_load_blkL 65 (.tmp 5) rfl _ e5 (cs := itemC _ p1 s1 _) B2 hT _ Try.underlying65 (by rfl) hz2 (left_intro rfl (Stp.refl _) trivial)
          refine ⟨?_, ?_⟩
          · rintro L a1 w1 hT - - ⟨h28, -⟩   -- 3: Op.call { value (Operand.func 46), args := #[t28], argTypes := #[65] }
            have e28 : a1.tmps.getD 28 undef = _ := h28
            have f28 := getD_form e28
            clear h28
            go_simp; go_at_call 46; (with_reducible refine (T1.out _).mono ?_); rintro e w2 ⟨rfl, hb⟩; exact left_intro rfl (Stp.of hb) trivial
          refine ⟨?_, ?_⟩
          · rintro L a1 w1 hT - - ⟨h27, h29, -⟩   -- 4: Op.call { value (Operand.func 45), args := #[t27, t29], argTypes := #[72, 72] }
            have e27 : a1.tmps.getD 27 undef = _ := h27
            have f27 := getD_form e27
            have e29 : a1.tmps.getD 29 undef = _ := h29
            have f29 := getD_form e29
            clear h27 h29
            go_simp; go_at_call 45; (with_reducible refine (CK.out _).mono ?_); rintro e w2 ⟨rfl, hb⟩; exact left_intro rfl (Stp.of hb) trivial
          refine ⟨?_, ?_⟩
          · rintro L a1 w1 hT - - ⟨h30, -⟩   -- 5: Op.assign t30
            have e30 : a1.tmps.getD 30 undef = _ := h30
            have f30 := getD_form e30
            clear h30
            go_simp; exact left_intro rfl (Stp.refl _) trivial
          trivial
        case hmono => repeat (first | exact trivial | refine ⟨fun _ _ _ _ h => h, ?_⟩)
        case hend =>
          intro w2 hT
          rintro _ rfl _ rfl _ rfl _ rfl _ rfl _ rfl
          simp only [relEnd, Act.put, List.setIfInBounds_toArray, List.set_cons_succ, List.set_cons_zero]
          replace B0 := B0.at_ hT
          replace B1 := B1.at_ hT
          replace B2 := B2.at_ hT
          replace hB := hB.trans (Below.mono hT hB.size)
          clear hT
          have k64 := B0.cellv h64
          go_wp2
          apply wp_region_rel_below [[], [(31, some 0)], [(32, some 1)], [(10, none), (33, some 2)], [(11, none), (33, some 2)], [(34, some 3), (35, some 4), (33, some 2)], [(33, some 2), (36, some 5)], [(37, some 6)], [(11, none), (38, some 7)], [(39, some 8), (38, some 7)], [(40, some 9), (38, some 7)], [(9, none), (41, some 10)], [(41, some 10)], [(4, none), (41, some 10)], [(44, some 13), (41, some 10)], [(45, some 14), (41, some 10)], [(43, some 12), (46, some 15), (41, some 10)], [(5, none), (41, some 10)], [(48, some 17), (41, some 10)], [(49, some 18), (41, some 10)], [(47, some 16), (50, some 19), (41, some 10)], [(42, some 11), (51, some 20), (41, some 10)], [(41, some 10), (52, some 21), (38, some 7)], [(38, some 7), (53, some 22)], [(54, some 23)], [(11, none), (55, some 24)], [(56, some 25), (55, some 24)], [(57, some 26), (55, some 24)], [(9, none), (58, some 27)], [(59, some 28), (58, some 27)], [(58, some 27), (60, some 29), (55, some 24)], [(55, some 24), (61, some 30)]] [eqv _, eqv _, eqv _, eqv _, eqv _, eqv _, eqv _, eqv _, eqv _, eqv _, eqv _, eqv _, eqv _, eqv _, eqv _, eqv _, eqv _, eqv _, eqv _, eqv _, eqv _, eqv _, eqv _, eqv _, eqv _, eqv _, eqv _, eqv _, eqv _, eqv _, eqv _, eqv _] (by kernel_rfl) (by kernel_rfl)
          case hobs =>
            refine ⟨?_, ?_⟩
            · rintro L a1 w1 hT - - -   -- 0: Op.call { value (Operand.func 47), args := #[], argTypes := #[] }
              go_simp; go_at_call 47; (with_reducible refine (AA.out _).mono ?_); rintro e w2 ⟨rfl, hb⟩; exact left_intro rfl (Stp.of hb) trivial
            refine ⟨?_, ?_⟩
            · rintro L a1 w1 hT - - ⟨h31, -⟩   -- 1: Op.unOp UnOp.not 4 t31
              have e31 : a1.tmps.getD 31 undef = _ := h31
              have f31 := getD_form e31
              clear h31
              go_simp; exact left_intro rfl (Stp.refl _) trivial
            refine ⟨?_, ?_⟩
            · rintro L a1 w1 hT - - ⟨h32, -⟩   -- 2: Op.move t32
              have e32 : a1.tmps.getD 32 undef = _ := h32
              have f32 := getD_form e32
              clear h32
              go_simp; exact left_intro rfl (Stp.refl _) trivial
            refine ⟨?_, ?_⟩
            · rintro L a1 w1 hT - - ⟨h10, h33, -⟩   -- 3: Op.move t10
              have e10 : a1.tmps.getD 10 undef = _ := h10
              have f10 := getD_form e10
              have e33 : a1.tmps.getD 33 undef = _ := h33
              have f33 := getD_form e33
              clear h10 h33
              refine ⟨false, 33, by rfl, e33, ?_⟩; rw [if_pos rfl]
              go_simp; exact left_intro rfl (Stp.refl _) trivial
            refine ⟨?_, ?_⟩
            · rintro L a1 w1 hT - - ⟨h11, h33, -⟩   -- 4: Op.move t11
              have e11 : a1.tmps.getD 11 undef = _ := h11
              have f11 := getD_form e11
              have e33 : a1.tmps.getD 33 undef = _ := h33
              have f33 := getD_form e33
              clear h11 h33
              refine ⟨false, 33, by rfl, e33, ?_⟩; rw [if_pos rfl]
              go_simp; exact left_intro rfl (Stp.refl _) trivial
            refine ⟨?_, ?_⟩
            · rintro L a1 w1 hT - - ⟨h34, h35, h33, -⟩   -- 5: Op.binOp BinOp.neq 3 t34 t35 3
              have e34 : a1.tmps.getD 34 undef = _ := h34
              have f34 := getD_form e34
              have e35 : a1.tmps.getD 35 undef = _ := h35
              have f35 := getD_form e35
              have e33 : a1.tmps.getD 33 undef = _ := h33
              have f33 := getD_form e33
              clear h34 h35 h33
              refine ⟨false, 33, by rfl, e33, ?_⟩; rw [if_pos rfl]
              go_simp; exact left_intro rfl (Stp.refl _) trivial
            refine ⟨?_, ?_⟩
            · rintro L a1 w1 hT - - ⟨h33, h36, -⟩   -- 6: Op.pick t33 (const (Value.bool true)) t36
              have e33 : a1.tmps.getD 33 undef = _ := h33
              have f33 := getD_form e33
              have e36 : a1.tmps.getD 36 undef = _ := h36
              have f36 := getD_form e36
              clear h33 h36
              go_simp; exact left_intro rfl (Stp.refl _) trivial
            refine ⟨?_, ?_⟩
            · rintro L a1 w1 hT - - ⟨h37, -⟩   -- 7: Op.move t37
              have e37 : a1.tmps.getD 37 undef = _ := h37
              have f37 := getD_form e37
              clear h37
              go_simp; exact left_intro rfl (Stp.refl _) trivial
            refine ⟨?_, ?_⟩
            · rintro L a1 w1 hT - - ⟨h11, h38, -⟩   -- 8: Op.move t11
              have e11 : a1.tmps.getD 11 undef = _ := h11
              have f11 := getD_form e11
              have e38 : a1.tmps.getD 38 undef = _ := h38
              have f38 := getD_form e38
              clear h11 h38
              refine ⟨false, 38, by rfl, e38, ?_⟩; rw [if_pos rfl]
              go_simp; exact left_intro rfl (Stp.refl _) trivial
            refine ⟨?_, ?_⟩
            · rintro L a1 w1 hT - - ⟨h39, h38, -⟩   -- 9: Op.binOp BinOp.eql 3 t39 (const (0:i64)) 3
              have e39 : a1.tmps.getD 39 undef = _ := h39
              have f39 := getD_form e39
              have e38 : a1.tmps.getD 38 undef = _ := h38
              have f38 := getD_form e38
              clear h39 h38
              refine ⟨false, 38, by rfl, e38, ?_⟩; rw [if_pos rfl]
              go_simp; exact left_intro rfl (Stp.refl _) trivial
            refine ⟨?_, ?_⟩
            · rintro L a1 w1 hT - - ⟨h40, h38, -⟩   -- 10: Op.move t40
              have e40 : a1.tmps.getD 40 undef = _ := h40
              have f40 := getD_form e40
              have e38 : a1.tmps.getD 38 undef = _ := h38
              have f38 := getD_form e38
              clear h40 h38
              refine ⟨false, 38, by rfl, e38, ?_⟩; rw [if_pos rfl]
              go_simp; exact left_intro rfl (Stp.refl _) trivial
            refine ⟨?_, ?_⟩
            · rintro L a1 w1 hT - - ⟨h9, h41, -⟩   -- 11: Op.move t9
              have e9 : a1.tmps.getD 9 undef = _ := h9
              have f9 := getD_form e9
              have e41 : a1.tmps.getD 41 undef = _ := h41
              have f41 := getD_form e41
              clear h9 h41
              refine ⟨false, 41, by rfl, e41, ?_⟩; rw [if_neg (by decide)]
              exact left_intro rfl (Stp.refl _) trivial
            refine ⟨?_, ?_⟩
            · rintro L a1 w1 hT - - ⟨h41, -⟩   -- 12: Op.call { value (Operand.func 48), args := #[const (Value.bool true)], argTypes := #[4] }
              have e41 : a1.tmps.getD 41 undef = _ := h41
              have f41 := getD_form e41
              clear h41
              refine ⟨false, 41, by rfl, e41, ?_⟩; rw [if_neg (by decide)]
              exact left_intro rfl (Stp.refl _) trivial
            refine ⟨?_, ?_⟩
            · rintro L a1 w1 hT - - ⟨h4, h41, -⟩   -- 13: Op.load 65 t4
              have e4 : a1.tmps.getD 4 undef = _ := h4
              have f4 := getD_form e4
              have e41 : a1.tmps.getD 41 undef = _ := h41
              have f41 := getD_form e41
              clear h4 h41
              refine ⟨false, 41, by rfl, e41, ?_⟩; rw [if_neg (by decide)]
              exact left_intro rfl (Stp.refl _) trivial
            refine ⟨?_, ?_⟩
            · rintro L a1 w1 hT - - ⟨h44, h41, -⟩   -- 14: Op.call { value (Operand.func 46), args := #[t44], argTypes := #[65] }
              have e44 : a1.tmps.getD 44 undef = _ := h44
              have f44 := getD_form e44
              have e41 : a1.tmps.getD 41 undef = _ := h41
              have f41 := getD_form e41
              clear h44 h41
              refine ⟨false, 41, by rfl, e41, ?_⟩; rw [if_neg (by decide)]
              exact left_intro rfl (Stp.refl _) trivial
            refine ⟨?_, ?_⟩
            · rintro L a1 w1 hT - - ⟨h45, h41, -⟩   -- 15: Op.call { value (Operand.func 49), args := #[t45], argTypes := #[72] }
              have e45 : a1.tmps.getD 45 undef = _ := h45
              have f45 := getD_form e45
              have e41 : a1.tmps.getD 41 undef = _ := h41
              have f41 := getD_form e41
              clear h45 h41
              refine ⟨false, 41, by rfl, e41, ?_⟩; rw [if_neg (by decide)]
              exact left_intro rfl (Stp.refl _) trivial
            refine ⟨?_, ?_⟩
            · rintro L a1 w1 hT - - ⟨h43, h46, h41, -⟩   -- 16: Op.binOp BinOp.add 9 t43 t46 9
              have e43 : a1.tmps.getD 43 undef = _ := h43
              have f43 := getD_form e43
              have e46 : a1.tmps.getD 46 undef = _ := h46
              have f46 := getD_form e46
              have e41 : a1.tmps.getD 41 undef = _ := h41
              have f41 := getD_form e41
              clear h43 h46 h41
              refine ⟨false, 41, by rfl, e41, ?_⟩; rw [if_neg (by decide)]
              exact left_intro rfl (Stp.refl _) trivial
            refine ⟨?_, ?_⟩
            · rintro L a1 w1 hT - - ⟨h5, h41, -⟩   -- 17: Op.load 65 t5
              have e5 : a1.tmps.getD 5 undef = _ := h5
              have f5 := getD_form e5
              have e41 : a1.tmps.getD 41 undef = _ := h41
              have f41 := getD_form e41
              clear h5 h41
              refine ⟨false, 41, by rfl, e41, ?_⟩; rw [if_neg (by decide)]
              exact left_intro rfl (Stp.refl _) trivial
            refine ⟨?_, ?_⟩
            · rintro L a1 w1 hT - - ⟨h48, h41, -⟩   -- 18: Op.call { value (Operand.func 46), args := #[t48], argTypes := #[65] }
              have e48 : a1.tmps.getD 48 undef = _ := h48
              have f48 := getD_form e48
              have e41 : a1.tmps.getD 41 undef = _ := h41
              have f41 := getD_form e41
              clear h48 h41
              refine ⟨false, 41, by rfl, e41, ?_⟩; rw [if_neg (by decide)]
              exact left_intro rfl (Stp.refl _) trivial
            refine ⟨?_, ?_⟩
            · rintro L a1 w1 hT - - ⟨h49, h41, -⟩   -- 19: Op.call { value (Operand.func 49), args := #[t49], argTypes := #[72] }
              have e49 : a1.tmps.getD 49 undef = _ := h49
              have f49 := getD_form e49
              have e41 : a1.tmps.getD 41 undef = _ := h41
              have f41 := getD_form e41
              clear h49 h41
              refine ⟨false, 41, by rfl, e41, ?_⟩; rw [if_neg (by decide)]
              exact left_intro rfl (Stp.refl _) trivial
            refine ⟨?_, ?_⟩
            · rintro L a1 w1 hT - - ⟨h47, h50, h41, -⟩   -- 20: Op.binOp BinOp.add 9 t47 t50 9
              have e47 : a1.tmps.getD 47 undef = _ := h47
              have f47 := getD_form e47
              have e50 : a1.tmps.getD 50 undef = _ := h50
              have f50 := getD_form e50
              have e41 : a1.tmps.getD 41 undef = _ := h41
              have f41 := getD_form e41
              clear h47 h50 h41
              refine ⟨false, 41, by rfl, e41, ?_⟩; rw [if_neg (by decide)]
              exact left_intro rfl (Stp.refl _) trivial
            refine ⟨?_, ?_⟩
            · rintro L a1 w1 hT - - ⟨h42, h51, h41, -⟩   -- 21: Op.binOp BinOp.neq 9 t42 t51 9
              have e42 : a1.tmps.getD 42 undef = _ := h42
              have f42 := getD_form e42
              have e51 : a1.tmps.getD 51 undef = _ := h51
              have f51 := getD_form e51
              have e41 : a1.tmps.getD 41 undef = _ := h41
              have f41 := getD_form e41
              clear h42 h51 h41
              refine ⟨false, 41, by rfl, e41, ?_⟩; rw [if_neg (by decide)]
              exact left_intro rfl (Stp.refl _) trivial
            refine ⟨?_, ?_⟩
            · rintro L a1 w1 hT - - ⟨h41, h52, h38, -⟩   -- 22: Op.pick t41 t52 (const (Value.bool false))
              have e41 : a1.tmps.getD 41 undef = _ := h41
              have f41 := getD_form e41
              have e52 : a1.tmps.getD 52 undef = _ := h52
              have f52 := getD_form e52
              have e38 : a1.tmps.getD 38 undef = _ := h38
              have f38 := getD_form e38
              clear h41 h52 h38
              refine ⟨false, 38, by rfl, e38, ?_⟩; rw [if_pos rfl]
              go_simp; exact left_intro rfl (Stp.refl _) trivial
            refine ⟨?_, ?_⟩
            · rintro L a1 w1 hT - - ⟨h38, h53, -⟩   -- 23: Op.pick t38 (const (Value.bool true)) t53
              have e38 : a1.tmps.getD 38 undef = _ := h38
              have f38 := getD_form e38
              have e53 : a1.tmps.getD 53 undef = _ := h53
              have f53 := getD_form e53
              clear h38 h53
              go_simp; exact left_intro rfl (Stp.refl _) trivial
            refine ⟨?_, ?_⟩
            · rintro L a1 w1 hT - - ⟨h54, -⟩   -- 24: Op.move t54
              have e54 : a1.tmps.getD 54 undef = _ := h54
              have f54 := getD_form e54
              clear h54
              go_simp; exact left_intro rfl (Stp.refl _) trivial
            refine ⟨?_, ?_⟩
            · rintro L a1 w1 hT - - ⟨h11, h55, -⟩   -- 25: Op.move t11
              have e11 : a1.tmps.getD 11 undef = _ := h11
              have f11 := getD_form e11
              have e55 : a1.tmps.getD 55 undef = _ := h55
              have f55 := getD_form e55
              clear h11 h55
              refine ⟨false, 55, by rfl, e55, ?_⟩; rw [if_pos rfl]
              go_simp; exact left_intro rfl (Stp.refl _) trivial
            refine ⟨?_, ?_⟩
            · rintro L a1 w1 hT - - ⟨h56, h55, -⟩   -- 26: Op.binOp BinOp.neq 3 t56 (const (0:i64)) 3
              have e56 : a1.tmps.getD 56 undef = _ := h56
              have f56 := getD_form e56
              have e55 : a1.tmps.getD 55 undef = _ := h55
              have f55 := getD_form e55
              clear h56 h55
              refine ⟨false, 55, by rfl, e55, ?_⟩; rw [if_pos rfl]
              go_simp; exact left_intro rfl (Stp.refl _) trivial
            refine ⟨?_, ?_⟩
            · rintro L a1 w1 hT - - ⟨h57, h55, -⟩   -- 27: Op.move t57
              have e57 : a1.tmps.getD 57 undef = _ := h57
              have f57 := getD_form e57
              have e55 : a1.tmps.getD 55 undef = _ := h55
              have f55 := getD_form e55
              clear h57 h55
              refine ⟨false, 55, by rfl, e55, ?_⟩; rw [if_pos rfl]
              go_simp; exact left_intro rfl (Stp.refl _) trivial
            refine ⟨?_, ?_⟩
            · rintro L a1 w1 hT - - ⟨h9, h58, -⟩   -- 28: Op.move t9
              have e9 : a1.tmps.getD 9 undef = _ := h9
              have f9 := getD_form e9
              have e58 : a1.tmps.getD 58 undef = _ := h58
              have f58 := getD_form e58
              clear h9 h58
              refine ⟨true, 58, by rfl, e58, ?_⟩; rw [if_pos rfl]
              go_simp; exact left_intro rfl (Stp.refl _) trivial
            refine ⟨?_, ?_⟩
            · rintro L a1 w1 hT - - ⟨h59, h58, -⟩   -- 29: Op.binOp BinOp.neq 9 t59 (const (Value.string { data := #[] })) 9
              have e59 : a1.tmps.getD 59 undef = _ := h59
              have f59 := getD_form e59
              have e58 : a1.tmps.getD 58 undef = _ := h58
              have f58 := getD_form e58
              clear h59 h58
              refine ⟨true, 58, by rfl, e58, ?_⟩; rw [if_pos rfl]
              go_simp; exact left_intro rfl (Stp.refl _) trivial
            refine ⟨?_, ?_⟩
            · rintro L a1 w1 hT - - ⟨h58, h60, h55, -⟩   -- 30: Op.pick t58 t60 (const (Value.bool false))
              have e58 : a1.tmps.getD 58 undef = _ := h58
              have f58 := getD_form e58
              have e60 : a1.tmps.getD 60 undef = _ := h60
              have f60 := getD_form e60
              have e55 : a1.tmps.getD 55 undef = _ := h55
              have f55 := getD_form e55
              clear h58 h60 h55
              refine ⟨false, 55, by rfl, e55, ?_⟩; rw [if_pos rfl]
              go_simp; exact left_intro rfl (Stp.refl _) trivial
            refine ⟨?_, ?_⟩
            · rintro L a1 w1 hT - - ⟨h55, h61, -⟩   -- 31: Op.pick t55 (const (Value.bool true)) t61
              have e55 : a1.tmps.getD 55 undef = _ := h55
              have f55 := getD_form e55
              have e61 : a1.tmps.getD 61 undef = _ := h61
              have f61 := getD_form e61
              clear h55 h61
              go_simp; exact left_intro rfl (Stp.refl _) trivial
            trivial
          case hmono => repeat (first | exact trivial | refine ⟨fun _ _ _ _ h => h, ?_⟩)
          case hend =>
            intro w2 hT
            rintro _ rfl _ rfl _ rfl _ rfl _ rfl _ rfl _ rfl _ rfl _ rfl _ rfl _ rfl _ rfl _ rfl _ rfl _ rfl _ rfl _ rfl _ rfl _ rfl _ rfl _ rfl _ rfl _ rfl _ rfl _ rfl _ rfl _ rfl _ rfl _ rfl _ rfl _ rfl _ rfl
            simp only [relEnd, Act.put, List.setIfInBounds_toArray, List.set_cons_succ, List.set_cons_zero]
            replace B0 := B0.at_ hT
            replace B1 := B1.at_ hT
            replace B2 := B2.at_ hT
            replace hB := hB.trans (Below.mono hT hB.size)
            clear hT
            have k64 := B0.cellv h64
            go_wp2
            go_ret
            exact ⟨rfl, hB⟩
      · have d1 : decide (i < 0) = false := by simp; omega
        by_cases c2 : 1073741824 < i
        · have d2 : decide (1073741824 < i) = true := by simp; omega
          have d2' : decide (i > 1073741824) = true := by simp; omega
          have hO : D.leafO l v i = [] := by unfold D.leafO D.leafE; rw [if_neg (by rw [if_neg (by omega)]; decide)]
          have hE : D.leafE i = 1 := by unfold D.leafE; rw [if_neg (by omega)]
          rw [hO, hE] at BL
          clear hO hE
          go_enter Try.func13, Try.ntmps13
          go_wp2_with (first | (refine wpList_load_blk (by rfl) 61 (.tmp 3) (by rfl) 0 (by rfl) (B0) ((leafC l v _).toArray) whole_at _ Try.underlying61 (by rfl) hz0' ?_; simp only [Act.put, List.setIfInBounds_toArray, List.set_cons_succ, List.set_cons_zero]) | (refine wpList_load_blk (by rfl) 65 (.tmp 4) (by rfl) 0 (by rfl) (B1) ((itemC _ p0 s0 _).toArray) whole_at _ Try.underlying65 (by rfl) hz1' ?_; simp only [Act.put, List.setIfInBounds_toArray, List.set_cons_succ, List.set_cons_zero]) | (refine wpList_load_blk (by rfl) 65 (.tmp 5) (by rfl) 0 (by rfl) (B2) ((itemC _ p1 s1 _).toArray) whole_at _ Try.underlying65 (by rfl) hz2' ?_; simp only [Act.put, List.setIfInBounds_toArray, List.set_cons_succ, List.set_cons_zero]) | (refine wpList_build (by rfl) 69 ([(0, .tmp 19), (1, .tmp 20)]) (by rfl) ([(0, .agg (itemC _ p0 s0 _).toArray), (1, .agg (itemC _ p1 s1 _).toArray)]) (by rfl) (.agg (innerC _ p0 s0 _ _ p1 s1 _).toArray) (hbd) ?_; simp only [Act.put, List.setIfInBounds_toArray, List.set_cons_succ, List.set_cons_zero]) | (go_at_call 44; first | ((with_reducible refine (BL.out _).mono ?_); rintro e w1 ⟨rfl, h1⟩; replace B0 := B0.at_ h1; replace B1 := B1.at_ h1; replace B2 := B2.at_ h1; replace hB := hB.trans (h1.mono hB.size); clear h1) | ((with_reducible refine (BI.out _).mono ?_); rintro e w1 ⟨rfl, h1⟩; replace B0 := B0.at_ h1; replace B1 := B1.at_ h1; replace B2 := B2.at_ h1; replace hB := hB.trans (h1.mono hB.size); clear h1)))
          apply wp_region_rel_below [[(4, none)], [(26, some 0)], [(5, none)], [(28, some 2)], [(27, some 1), (29, some 3)], [(30, some 4)]] [eqv _, eqv _, eqv _, eqv _, eqv _, eqv _] (by kernel_rfl) (by kernel_rfl)
          case hobs =>
            refine ⟨?_, ?_⟩
            · rintro L a1 w1 hT - - ⟨h4, -⟩   -- 0: Op.load 65 t4
              have e4 : a1.tmps.getD 4 undef = _ := h4
              have f4 := getD_form e4
              clear h4
              exact wp_load_blkL 65 (.tmp 4) rfl _ e4 (cs := itemC _ p0 s0 _) B1 hT _ Try.underlying65 (by rfl) hz1 (left_intro rfl (Stp.refl _) trivial)
            refine ⟨?_, ?_⟩
            · rintro L a1 w1 hT - - ⟨h26, -⟩   -- 1: Op.call { value (Operand.func 46), args := #[t26], argTypes := #[65] }
              have e26 : a1.tmps.getD 26 undef = _ := h26
              have f26 := getD_form e26
              clear h26
              go_simp; go_at_call 46; (with_reducible refine (T0.out _).mono ?_); rintro e w2 ⟨rfl, hb⟩; exact left_intro rfl (Stp.of hb) trivial
            refine ⟨?_, ?_⟩
            · rintro L a1 w1 hT - - ⟨h5, -⟩   -- 2: Op.load 65 t5
              have e5 : a1.tmps.getD 5 undef = _ := h5
              have f5 := getD_form e5
              clear h5
              exact wp_load_blkL 65 (.tmp 5) rfl _ e5 (cs := itemC _ p1 s1 _) B2 hT _ Try.underlying65 (by rfl) hz2 (left_intro rfl (Stp.refl _) trivial)
            refine ⟨?_, ?_⟩
            · rintro L a1 w1 hT - - ⟨h28, -⟩   -- 3: Op.call { value (Operand.func 46), args := #[t28], argTypes := #[65] }
              have e28 : a1.tmps.getD 28 undef = _ := h28
              have f28 := getD_form e28
              clear h28
              go_simp; go_at_call 46; (with_reducible refine (T1.out _).mono ?_); rintro e w2 ⟨rfl, hb⟩; exact left_intro rfl (Stp.of hb) trivial
            refine ⟨?_, ?_⟩
            · rintro L a1 w1 hT - - ⟨h27, h29, -⟩   -- 4: Op.call { value (Operand.func 45), args := #[t27, t29], argTypes := #[72, 72] }
              have e27 : a1.tmps.getD 27 undef = _ := h27
              have f27 := getD_form e27
              have e29 : a1.tmps.getD 29 undef = _ := h29
              have f29 := getD_form e29
              clear h27 h29
              go_simp; go_at_call 45; (with_reducible refine (CK.out _).mono ?_); rintro e w2 ⟨rfl, hb⟩; exact left_intro rfl (Stp.of hb) trivial
            refine ⟨?_, ?_⟩
            · rintro L a1 w1 hT - - ⟨h30, -⟩   -- 5: Op.assign t30
              have e30 : a1.tmps.getD 30 undef = _ := h30
              have f30 := getD_form e30
              clear h30
              go_simp; exact left_intro rfl (Stp.refl _) trivial
            trivial
          case hmono => repeat (first | exact trivial | refine ⟨fun _ _ _ _ h => h, ?_⟩)
          case hend =>
            intro w2 hT
            rintro _ rfl _ rfl _ rfl _ rfl _ rfl _ rfl
            simp only [relEnd, Act.put, List.setIfInBounds_toArray, List.set_cons_succ, List.set_cons_zero]
            replace B0 := B0.at_ hT
            replace B1 := B1.at_ hT
            replace B2 := B2.at_ hT
            replace hB := hB.trans (Below.mono hT hB.size)
            clear hT
            have k64 := B0.cellv h64
            go_wp2
            apply wp_region_rel_below [[], [(31, some 0)], [(32, some 1)], [(10, none), (33, some 2)], [(11, none), (33, some 2)], [(34, some 3), (35, some 4), (33, some 2)], [(33, some 2), (36, some 5)], [(37, some 6)], [(11, none), (38, some 7)], [(39, some 8), (38, some 7)], [(40, some 9), (38, some 7)], [(9, none), (41, some 10)], [(41, some 10)], [(4, none), (41, some 10)], [(44, some 13), (41, some 10)], [(45, some 14), (41, some 10)], [(43, some 12), (46, some 15), (41, some 10)], [(5, none), (41, some 10)], [(48, some 17), (41, some 10)], [(49, some 18), (41, some 10)], [(47, some 16), (50, some 19), (41, some 10)], [(42, some 11), (51, some 20), (41, some 10)], [(41, some 10), (52, some 21), (38, some 7)], [(38, some 7), (53, some 22)], [(54, some 23)], [(11, none), (55, some 24)], [(56, some 25), (55, some 24)], [(57, some 26), (55, some 24)], [(9, none), (58, some 27)], [(59, some 28), (58, some 27)], [(58, some 27), (60, some 29), (55, some 24)], [(55, some 24), (61, some 30)]] [eqv _, eqv _, eqv _, eqv _, eqv _, eqv _, eqv _, eqv _, eqv _, eqv _, eqv _, eqv _, eqv _, eqv _, eqv _, eqv _, eqv _, eqv _, eqv _, eqv _, eqv _, eqv _, eqv _, eqv _, eqv _, eqv _, eqv _, eqv _, eqv _, eqv _, eqv _, eqv _] (by kernel_rfl) (by kernel_rfl)
            case hobs =>
              refine ⟨?_, ?_⟩
              · rintro L a1 w1 hT - - -   -- 0: Op.call { value (Operand.func 47), args := #[], argTypes := #[] }
                go_simp; go_at_call 47; (with_reducible refine (AA.out _).mono ?_); rintro e w2 ⟨rfl, hb⟩; exact left_intro rfl (Stp.of hb) trivial
              refine ⟨?_, ?_⟩
              · rintro L a1 w1 hT - - ⟨h31, -⟩   -- 1: Op.unOp UnOp.not 4 t31
                have e31 : a1.tmps.getD 31 undef = _ := h31
                have f31 := getD_form e31
                clear h31
                go_simp; exact left_intro rfl (Stp.refl _) trivial
              refine ⟨?_, ?_⟩
              · rintro L a1 w1 hT - - ⟨h32, -⟩   -- 2: Op.move t32
                have e32 : a1.tmps.getD 32 undef = _ := h32
                have f32 := getD_form e32
                clear h32
                go_simp; exact left_intro rfl (Stp.refl _) trivial
              refine ⟨?_, ?_⟩
              · rintro L a1 w1 hT - - ⟨h10, h33, -⟩   -- 3: Op.move t10
                have e10 : a1.tmps.getD 10 undef = _ := h10
                have f10 := getD_form e10
                have e33 : a1.tmps.getD 33 undef = _ := h33
                have f33 := getD_form e33
                clear h10 h33
                refine ⟨false, 33, by rfl, e33, ?_⟩; rw [if_pos rfl]
                go_simp; exact left_intro rfl (Stp.refl _) trivial
              refine ⟨?_, ?_⟩
              · rintro L a1 w1 hT - - ⟨h11, h33, -⟩   -- 4: Op.move t11
                have e11 : a1.tmps.getD 11 undef = _ := h11
                have f11 := getD_form e11
                have e33 : a1.tmps.getD 33 undef = _ := h33
                have f33 := getD_form e33
                clear h11 h33
                refine ⟨false, 33, by rfl, e33, ?_⟩; rw [if_pos rfl]
                go_simp; exact left_intro rfl (Stp.refl _) trivial
              refine ⟨?_, ?_⟩
              · rintro L a1 w1 hT - - ⟨h34, h35, h33, -⟩   -- 5: Op.binOp BinOp.neq 3 t34 t35 3
                have e34 : a1.tmps.getD 34 undef = _ := h34
                have f34 := getD_form e34
                have e35 : a1.tmps.getD 35 undef = _ := h35
                have f35 := getD_form e35
                have e33 : a1.tmps.getD 33 undef = _ := h33
                have f33 := getD_form e33
                clear h34 h35 h33
                refine ⟨false, 33, by rfl, e33, ?_⟩; rw [if_pos rfl]
                go_simp; exact left_intro rfl (Stp.refl _) trivial
              refine ⟨?_, ?_⟩
              · rintro L a1 w1 hT - - ⟨h33, h36, -⟩   -- 6: Op.pick t33 (const (Value.bool true)) t36
                have e33 : a1.tmps.getD 33 undef = _ := h33
                have f33 := getD_form e33
                have e36 : a1.tmps.getD 36 undef = _ := h36
                have f36 := getD_form e36
                clear h33 h36
                go_simp; exact left_intro rfl (Stp.refl _) trivial
              refine ⟨?_, ?_⟩
              · rintro L a1 w1 hT - - ⟨h37, -⟩   -- 7: Op.move t37
                have e37 : a1.tmps.getD 37 undef = _ := h37
                have f37 := getD_form e37
                clear h37
                go_simp; exact left_intro rfl (Stp.refl _) trivial
              refine ⟨?_, ?_⟩
              · rintro L a1 w1 hT - - ⟨h11, h38, -⟩   -- 8: Op.move t11
                have e11 : a1.tmps.getD 11 undef = _ := h11
                have f11 := getD_form e11
                have e38 : a1.tmps.getD 38 undef = _ := h38
                have f38 := getD_form e38
                clear h11 h38
                refine ⟨false, 38, by rfl, e38, ?_⟩; rw [if_pos rfl]
                go_simp; exact left_intro rfl (Stp.refl _) trivial
              refine ⟨?_, ?_⟩
              · rintro L a1 w1 hT - - ⟨h39, h38, -⟩   -- 9: Op.binOp BinOp.eql 3 t39 (const (0:i64)) 3
                have e39 : a1.tmps.getD 39 undef = _ := h39
                have f39 := getD_form e39
                have e38 : a1.tmps.getD 38 undef = _ := h38
                have f38 := getD_form e38
                clear h39 h38
                refine ⟨false, 38, by rfl, e38, ?_⟩; rw [if_pos rfl]
                go_simp; exact left_intro rfl (Stp.refl _) trivial
              refine ⟨?_, ?_⟩
              · rintro L a1 w1 hT - - ⟨h40, h38, -⟩   -- 10: Op.move t40
                have e40 : a1.tmps.getD 40 undef = _ := h40
                have f40 := getD_form e40
                have e38 : a1.tmps.getD 38 undef = _ := h38
                have f38 := getD_form e38
                clear h40 h38
                refine ⟨false, 38, by rfl, e38, ?_⟩; rw [if_pos rfl]
                go_simp; exact left_intro rfl (Stp.refl _) trivial
              refine ⟨?_, ?_⟩
              · rintro L a1 w1 hT - - ⟨h9, h41, -⟩   -- 11: Op.move t9
                have e9 : a1.tmps.getD 9 undef = _ := h9
                have f9 := getD_form e9
                have e41 : a1.tmps.getD 41 undef = _ := h41
                have f41 := getD_form e41
                clear h9 h41
                refine ⟨false, 41, by rfl, e41, ?_⟩; rw [if_neg (by decide)]
                exact left_intro rfl (Stp.refl _) trivial
              refine ⟨?_, ?_⟩
              · rintro L a1 w1 hT - - ⟨h41, -⟩   -- 12: Op.call { value (Operand.func 48), args := #[const (Value.bool true)], argTypes := #[4] }
                have e41 : a1.tmps.getD 41 undef = _ := h41
                have f41 := getD_form e41
                clear h41
                refine ⟨false, 41, by rfl, e41, ?_⟩; rw [if_neg (by decide)]
                exact left_intro rfl (Stp.refl _) trivial
              refine ⟨?_, ?_⟩
              · rintro L a1 w1 hT - - ⟨h4, h41, -⟩   -- 13: Op.load 65 t4
                have e4 : a1.tmps.getD 4 undef = _ := h4
                have f4 := getD_form e4
                have e41 : a1.tmps.getD 41 undef = _ := h41
                have f41 := getD_form e41
                clear h4 h41
                refine ⟨false, 41, by rfl, e41, ?_⟩; rw [if_neg (by decide)]
                exact left_intro rfl (Stp.refl _) trivial
              refine ⟨?_, ?_⟩
              · rintro L a1 w1 hT - - ⟨h44, h41, -⟩   -- 14: Op.call { value (Operand.func 46), args := #[t44], argTypes := #[65] }
                have e44 : a1.tmps.getD 44 undef = _ := h44
                have f44 := getD_form e44
                have e41 : a1.tmps.getD 41 undef = _ := h41
                have f41 := getD_form e41
                clear h44 h41
                refine ⟨false, 41, by rfl, e41, ?_⟩; rw [if_neg (by decide)]
                exact left_intro rfl (Stp.refl _) trivial
              refine ⟨?_, ?_⟩
              · rintro L a1 w1 hT - - ⟨h45, h41, -⟩   -- 15: Op.call { value (Operand.func 49), args := #[t45], argTypes := #[72] }
                have e45 : a1.tmps.getD 45 undef = _ := h45
                have f45 := getD_form e45
                have e41 : a1.tmps.getD 41 undef = _ := h41
                have f41 := getD_form e41
                clear h45 h41
                refine ⟨false, 41, by rfl, e41, ?_⟩; rw [if_neg (by decide)]
                exact left_intro rfl (Stp.refl _) trivial
              refine ⟨?_, ?_⟩
              · rintro L a1 w1 hT - - ⟨h43, h46, h41, -⟩   -- 16: Op.binOp BinOp.add 9 t43 t46 9
                have e43 : a1.tmps.getD 43 undef = _ := h43
                have f43 := getD_form e43
                have e46 : a1.tmps.getD 46 undef = _ := h46
                have f46 := getD_form e46
                have e41 : a1.tmps.getD 41 undef = _ := h41
                have f41 := getD_form e41
                clear h43 h46 h41
                refine ⟨false, 41, by rfl, e41, ?_⟩; rw [if_neg (by decide)]
                exact left_intro rfl (Stp.refl _) trivial
              refine ⟨?_, ?_⟩
              · rintro L a1 w1 hT - - ⟨h5, h41, -⟩   -- 17: Op.load 65 t5
                have e5 : a1.tmps.getD 5 undef = _ := h5
                have f5 := getD_form e5
                have e41 : a1.tmps.getD 41 undef = _ := h41
                have f41 := getD_form e41
                clear h5 h41
                refine ⟨false, 41, by rfl, e41, ?_⟩; rw [if_neg (by decide)]
                exact left_intro rfl (Stp.refl _) trivial
              refine ⟨?_, ?_⟩
              · rintro L a1 w1 hT - - ⟨h48, h41, -⟩   -- 18: Op.call { value (Operand.func 46), args := #[t48], argTypes := #[65] }
                have e48 : a1.tmps.getD 48 undef = _ := h48
                have f48 := getD_form e48
                have e41 : a1.tmps.getD 41 undef = _ := h41
                have f41 := getD_form e41
                clear h48 h41
                refine ⟨false, 41, by rfl, e41, ?_⟩; rw [if_neg (by decide)]
                exact left_intro rfl (Stp.refl _) trivial
              refine ⟨?_, ?_⟩
              · rintro L a1 w1 hT - - ⟨h49, h41, -⟩   -- 19: Op.call { value (Operand.func 49), args := #[t49], argTypes := #[72] }
                have e49 : a1.tmps.getD 49 undef = _ := h49
                have f49 := getD_form e49
                have e41 : a1.tmps.getD 41 undef = _ := h41
                have f41 := getD_form e41
                clear h49 h41
                refine ⟨false, 41, by rfl, e41, ?_⟩; rw [if_neg (by decide)]
                exact left_intro rfl (Stp.refl _) trivial
              refine ⟨?_, ?_⟩
              · rintro L a1 w1 hT - - ⟨h47, h50, h41, -⟩   -- 20: Op.binOp BinOp.add 9 t47 t50 9
                have e47 : a1.tmps.getD 47 undef = _ := h47
                have f47 := getD_form e47
                have e50 : a1.tmps.getD 50 undef = _ := h50
                have f50 := getD_form e50
                have e41 : a1.tmps.getD 41 undef = _ := h41
                have f41 := getD_form e41
                clear h47 h50 h41
                refine ⟨false, 41, by rfl, e41, ?_⟩; rw [if_neg (by decide)]
                exact left_intro rfl (Stp.refl _) trivial
              refine ⟨?_, ?_⟩
              · rintro L a1 w1 hT - - ⟨h42, h51, h41, -⟩   -- 21: Op.binOp BinOp.neq 9 t42 t51 9
                have e42 : a1.tmps.getD 42 undef = _ := h42
                have f42 := getD_form e42
                have e51 : a1.tmps.getD 51 undef = _ := h51
                have f51 := getD_form e51
                have e41 : a1.tmps.getD 41 undef = _ := h41
                have f41 := getD_form e41
                clear h42 h51 h41
                refine ⟨false, 41, by rfl, e41, ?_⟩; rw [if_neg (by decide)]
                exact left_intro rfl (Stp.refl _) trivial
              refine ⟨?_, ?_⟩
              · rintro L a1 w1 hT - - ⟨h41, h52, h38, -⟩   -- 22: Op.pick t41 t52 (const (Value.bool false))
                have e41 : a1.tmps.getD 41 undef = _ := h41
                have f41 := getD_form e41
                have e52 : a1.tmps.getD 52 undef = _ := h52
                have f52 := getD_form e52
                have e38 : a1.tmps.getD 38 undef = _ := h38
                have f38 := getD_form e38
                clear h41 h52 h38
                refine ⟨false, 38, by rfl, e38, ?_⟩; rw [if_pos rfl]
                go_simp; exact left_intro rfl (Stp.refl _) trivial
              refine ⟨?_, ?_⟩
              · rintro L a1 w1 hT - - ⟨h38, h53, -⟩   -- 23: Op.pick t38 (const (Value.bool true)) t53
                have e38 : a1.tmps.getD 38 undef = _ := h38
                have f38 := getD_form e38
                have e53 : a1.tmps.getD 53 undef = _ := h53
                have f53 := getD_form e53
                clear h38 h53
                go_simp; exact left_intro rfl (Stp.refl _) trivial
              refine ⟨?_, ?_⟩
              · rintro L a1 w1 hT - - ⟨h54, -⟩   -- 24: Op.move t54
                have e54 : a1.tmps.getD 54 undef = _ := h54
                have f54 := getD_form e54
                clear h54
                go_simp; exact left_intro rfl (Stp.refl _) trivial
              refine ⟨?_, ?_⟩
              · rintro L a1 w1 hT - - ⟨h11, h55, -⟩   -- 25: Op.move t11
                have e11 : a1.tmps.getD 11 undef = _ := h11
                have f11 := getD_form e11
                have e55 : a1.tmps.getD 55 undef = _ := h55
                have f55 := getD_form e55
                clear h11 h55
                refine ⟨false, 55, by rfl, e55, ?_⟩; rw [if_pos rfl]
                go_simp; exact left_intro rfl (Stp.refl _) trivial
              refine ⟨?_, ?_⟩
              · rintro L a1 w1 hT - - ⟨h56, h55, -⟩   -- 26: Op.binOp BinOp.neq 3 t56 (const (0:i64)) 3
                have e56 : a1.tmps.getD 56 undef = _ := h56
                have f56 := getD_form e56
                have e55 : a1.tmps.getD 55 undef = _ := h55
                have f55 := getD_form e55
                clear h56 h55
                refine ⟨false, 55, by rfl, e55, ?_⟩; rw [if_pos rfl]
                go_simp; exact left_intro rfl (Stp.refl _) trivial
              refine ⟨?_, ?_⟩
              · rintro L a1 w1 hT - - ⟨h57, h55, -⟩   -- 27: Op.move t57
                have e57 : a1.tmps.getD 57 undef = _ := h57
                have f57 := getD_form e57
                have e55 : a1.tmps.getD 55 undef = _ := h55
                have f55 := getD_form e55
                clear h57 h55
                refine ⟨false, 55, by rfl, e55, ?_⟩; rw [if_pos rfl]
                go_simp; exact left_intro rfl (Stp.refl _) trivial
              refine ⟨?_, ?_⟩
              · rintro L a1 w1 hT - - ⟨h9, h58, -⟩   -- 28: Op.move t9
                have e9 : a1.tmps.getD 9 undef = _ := h9
                have f9 := getD_form e9
                have e58 : a1.tmps.getD 58 undef = _ := h58
                have f58 := getD_form e58
                clear h9 h58
                refine ⟨true, 58, by rfl, e58, ?_⟩; rw [if_pos rfl]
                go_simp; exact left_intro rfl (Stp.refl _) trivial
              refine ⟨?_, ?_⟩
              · rintro L a1 w1 hT - - ⟨h59, h58, -⟩   -- 29: Op.binOp BinOp.neq 9 t59 (const (Value.string { data := #[] })) 9
                have e59 : a1.tmps.getD 59 undef = _ := h59
                have f59 := getD_form e59
                have e58 : a1.tmps.getD 58 undef = _ := h58
                have f58 := getD_form e58
                clear h59 h58
                refine ⟨true, 58, by rfl, e58, ?_⟩; rw [if_pos rfl]
                go_simp; exact left_intro rfl (Stp.refl _) trivial
              refine ⟨?_, ?_⟩
              · rintro L a1 w1 hT - - ⟨h58, h60, h55, -⟩   -- 30: Op.pick t58 t60 (const (Value.bool false))
                have e58 : a1.tmps.getD 58 undef = _ := h58
                have f58 := getD_form e58
                have e60 : a1.tmps.getD 60 undef = _ := h60
                have f60 := getD_form e60
                have e55 : a1.tmps.getD 55 undef = _ := h55
                have f55 := getD_form e55
                clear h58 h60 h55
                refine ⟨false, 55, by rfl, e55, ?_⟩; rw [if_pos rfl]
                go_simp; exact left_intro rfl (Stp.refl _) trivial
              refine ⟨?_, ?_⟩
              · rintro L a1 w1 hT - - ⟨h55, h61, -⟩   -- 31: Op.pick t55 (const (Value.bool true)) t61
                have e55 : a1.tmps.getD 55 undef = _ := h55
                have f55 := getD_form e55
                have e61 : a1.tmps.getD 61 undef = _ := h61
                have f61 := getD_form e61
                clear h55 h61
                go_simp; exact left_intro rfl (Stp.refl _) trivial
              trivial
            case hmono => repeat (first | exact trivial | refine ⟨fun _ _ _ _ h => h, ?_⟩)
            case hend =>
              intro w2 hT
              rintro _ rfl _ rfl _ rfl _ rfl _ rfl _ rfl _ rfl _ rfl _ rfl _ rfl _ rfl _ rfl _ rfl _ rfl _ rfl _ rfl _ rfl _ rfl _ rfl _ rfl _ rfl _ rfl _ rfl _ rfl _ rfl _ rfl _ rfl _ rfl _ rfl _ rfl _ rfl _ rfl
              simp only [relEnd, Act.put, List.setIfInBounds_toArray, List.set_cons_succ, List.set_cons_zero]
              replace B0 := B0.at_ hT
              replace B1 := B1.at_ hT
              replace B2 := B2.at_ hT
              replace hB := hB.trans (Below.mono hT hB.size)
              clear hT
              have k64 := B0.cellv h64
              go_wp2
              go_ret
              exact ⟨rfl, hB⟩
        · have d2 : decide (1073741824 < i) = false := by simp; omega
          have d2' : decide (i > 1073741824) = false := by simp; omega
          obtain ⟨k, rfl⟩ : ∃ k : Nat, i = k := ⟨i.toNat, by omega⟩
          have hE : D.leafE k = 0 := by unfold D.leafE; rw [if_pos (by omega)]
          have hO : D.leafO l v (k : Int) = D.leafW l v k := by unfold D.leafO; rw [if_pos hE]; rfl
          rw [hO, hE] at BL
          have LT := Lib.hid (fun W => rleafW_any l v k (by omega) hl hv W)
          have hlw : (D.leafW l v k == D.leafW l v k) = true := beq_self_eq_true _
          generalize D.leafW l v k = lw at *
          clear hO hE
          go_enter Try.func13, Try.ntmps13
          go_wp2_with (first | (refine wpList_load_blk (by rfl) 61 (.tmp 3) (by rfl) 0 (by rfl) (B0) ((leafC l v _).toArray) whole_at _ Try.underlying61 (by rfl) hz0' ?_; simp only [Act.put, List.setIfInBounds_toArray, List.set_cons_succ, List.set_cons_zero]) | (refine wpList_load_blk (by rfl) 65 (.tmp 4) (by rfl) 0 (by rfl) (B1) ((itemC _ p0 s0 _).toArray) whole_at _ Try.underlying65 (by rfl) hz1' ?_; simp only [Act.put, List.setIfInBounds_toArray, List.set_cons_succ, List.set_cons_zero]) | (refine wpList_load_blk (by rfl) 65 (.tmp 5) (by rfl) 0 (by rfl) (B2) ((itemC _ p1 s1 _).toArray) whole_at _ Try.underlying65 (by rfl) hz2' ?_; simp only [Act.put, List.setIfInBounds_toArray, List.set_cons_succ, List.set_cons_zero]) | (refine wpList_build (by rfl) 69 ([(0, .tmp 19), (1, .tmp 20)]) (by rfl) ([(0, .agg (itemC _ p0 s0 _).toArray), (1, .agg (itemC _ p1 s1 _).toArray)]) (by rfl) (.agg (innerC _ p0 s0 _ _ p1 s1 _).toArray) (hbd) ?_; simp only [Act.put, List.setIfInBounds_toArray, List.set_cons_succ, List.set_cons_zero]) | (go_at_call 44; first | ((with_reducible refine (BL.out _).mono ?_); rintro e w1 ⟨rfl, h1⟩; replace B0 := B0.at_ h1; replace B1 := B1.at_ h1; replace B2 := B2.at_ h1; replace hB := hB.trans (h1.mono hB.size); clear h1) | ((with_reducible refine (BI.out _).mono ?_); rintro e w1 ⟨rfl, h1⟩; replace B0 := B0.at_ h1; replace B1 := B1.at_ h1; replace B2 := B2.at_ h1; replace hB := hB.trans (h1.mono hB.size); clear h1)))
          apply wp_region_rel_below [[(4, none)], [(26, some 0)], [(5, none)], [(28, some 2)], [(27, some 1), (29, some 3)], [(30, some 4)]] [eqv _, eqv _, eqv _, eqv _, eqv _, eqv _] (by kernel_rfl) (by kernel_rfl)
          case hobs =>
            refine ⟨?_, ?_⟩
            · rintro L a1 w1 hT - - ⟨h4, -⟩   -- 0: Op.load 65 t4
              have e4 : a1.tmps.getD 4 undef = _ := h4
              have f4 := getD_form e4
              clear h4
              exact wp_load_blkL 65 (.tmp 4) rfl _ e4 (cs := itemC _ p0 s0 _) B1 hT _ Try.underlying65 (by rfl) hz1 (left_intro rfl (Stp.refl _) trivial)
            refine ⟨?_, ?_⟩
            · rintro L a1 w1 hT - - ⟨h26, -⟩   -- 1: Op.call { value (Operand.func 46), args := #[t26], argTypes := #[65] }
              have e26 : a1.tmps.getD 26 undef = _ := h26
              have f26 := getD_form e26
              clear h26
              go_simp; go_at_call 46; (with_reducible refine (T0.out _).mono ?_); rintro e w2 ⟨rfl, hb⟩; exact left_intro rfl (Stp.of hb) trivial
            refine ⟨?_, ?_⟩
            · rintro L a1 w1 hT - - ⟨h5, -⟩   -- 2: Op.load 65 t5
              have e5 : a1.tmps.getD 5 undef = _ := h5
              have f5 := getD_form e5
              clear h5
              exact wp_load_blkL 65 (.tmp 5) rfl _ e5 (cs := itemC _ p1 s1 _) B2 hT _ Try.underlying65 (by rfl) hz2 (left_intro rfl (Stp.refl _) trivial)
            refine ⟨?_, ?_⟩
            · rintro L a1 w1 hT - - ⟨h28, -⟩   -- 3: Op.call { value (Operand.func 46), args := #[t28], argTypes := #[65] }
              have e28 : a1.tmps.getD 28 undef = _ := h28
              have f28 := getD_form e28
              clear h28
              go_simp; go_at_call 46; (with_reducible refine (T1.out _).mono ?_); rintro e w2 ⟨rfl, hb⟩; exact left_intro rfl (Stp.of hb) trivial
            refine ⟨?_, ?_⟩
            · rintro L a1 w1 hT - - ⟨h27, h29, -⟩   -- 4: Op.call { value (Operand.func 45), args := #[t27, t29], argTypes := #[72, 72] }
              have e27 : a1.tmps.getD 27 undef = _ := h27
              have f27 := getD_form e27
              have e29 : a1.tmps.getD 29 undef = _ := h29
              have f29 := getD_form e29
              clear h27 h29
              go_simp; go_at_call 45; (with_reducible refine (CK.out _).mono ?_); rintro e w2 ⟨rfl, hb⟩; exact left_intro rfl (Stp.of hb) trivial
            refine ⟨?_, ?_⟩
            · rintro L a1 w1 hT - - ⟨h30, -⟩   -- 5: Op.assign t30
              have e30 : a1.tmps.getD 30 undef = _ := h30
              have f30 := getD_form e30
              clear h30
              go_simp; exact left_intro rfl (Stp.refl _) trivial
            trivial
          case hmono => repeat (first | exact trivial | refine ⟨fun _ _ _ _ h => h, ?_⟩)
          case hend =>
            intro w2 hT
            rintro _ rfl _ rfl _ rfl _ rfl _ rfl _ rfl
            simp only [relEnd, Act.put, List.setIfInBounds_toArray, List.set_cons_succ, List.set_cons_zero]
            replace B0 := B0.at_ hT
            replace B1 := B1.at_ hT
            replace B2 := B2.at_ hT
            replace hB := hB.trans (Below.mono hT hB.size)
            clear hT
            have k64 := B0.cellv h64
            go_wp2
            apply wp_region_rel_below [[], [(31, some 0)], [(32, some 1)], [(10, none), (33, some 2)], [(11, none), (33, some 2)], [(34, some 3), (35, some 4), (33, some 2)], [(33, some 2), (36, some 5)], [(37, some 6)], [(11, none), (38, some 7)], [(39, some 8), (38, some 7)], [(40, some 9), (38, some 7)], [(9, none), (41, some 10)], [(41, some 10)], [(4, none), (41, some 10)], [(44, some 13), (41, some 10)], [(45, some 14), (41, some 10)], [(43, some 12), (46, some 15), (41, some 10)], [(5, none), (41, some 10)], [(48, some 17), (41, some 10)], [(49, some 18), (41, some 10)], [(47, some 16), (50, some 19), (41, some 10)], [(42, some 11), (51, some 20), (41, some 10)], [(41, some 10), (52, some 21), (38, some 7)], [(38, some 7), (53, some 22)], [(54, some 23)], [(11, none), (55, some 24)], [(56, some 25), (55, some 24)], [(57, some 26), (55, some 24)], [(9, none), (58, some 27)], [(59, some 28), (58, some 27)], [(58, some 27), (60, some 29), (55, some 24)], [(55, some 24), (61, some 30)]] [eqv _, eqv _, eqv _, eqv _, eqv _, eqv _, eqv _, eqv _, eqv _, eqv _, eqv _, eqv _, eqv _, eqv _, eqv _, eqv _, eqv _, eqv _, eqv _, eqv _, eqv _, eqv _, eqv _, eqv _, eqv _, eqv _, eqv _, eqv _, eqv _, eqv _, eqv _, eqv _] (by kernel_rfl) (by kernel_rfl)
            case hobs =>
              refine ⟨?_, ?_⟩
              · rintro L a1 w1 hT - - -   -- 0: Op.call { value (Operand.func 47), args := #[], argTypes := #[] }
                go_simp; go_at_call 47; (with_reducible refine (AA.out _).mono ?_); rintro e w2 ⟨rfl, hb⟩; exact left_intro rfl (Stp.of hb) trivial
              refine ⟨?_, ?_⟩
              · rintro L a1 w1 hT - - ⟨h31, -⟩   -- 1: Op.unOp UnOp.not 4 t31
                have e31 : a1.tmps.getD 31 undef = _ := h31
                have f31 := getD_form e31
                clear h31
                go_simp; exact left_intro rfl (Stp.refl _) trivial
              refine ⟨?_, ?_⟩
              · rintro L a1 w1 hT - - ⟨h32, -⟩   -- 2: Op.move t32
                have e32 : a1.tmps.getD 32 undef = _ := h32
                have f32 := getD_form e32
                clear h32
                go_simp; exact left_intro rfl (Stp.refl _) trivial
              refine ⟨?_, ?_⟩
              · rintro L a1 w1 hT - - ⟨h10, h33, -⟩   -- 3: Op.move t10
                have e10 : a1.tmps.getD 10 undef = _ := h10
                have f10 := getD_form e10
                have e33 : a1.tmps.getD 33 undef = _ := h33
                have f33 := getD_form e33
                clear h10 h33
                refine ⟨false, 33, by rfl, e33, ?_⟩; rw [if_pos rfl]
                go_simp; exact left_intro rfl (Stp.refl _) trivial
              refine ⟨?_, ?_⟩
              · rintro L a1 w1 hT - - ⟨h11, h33, -⟩   -- 4: Op.move t11
                have e11 : a1.tmps.getD 11 undef = _ := h11
                have f11 := getD_form e11
                have e33 : a1.tmps.getD 33 undef = _ := h33
                have f33 := getD_form e33
                clear h11 h33
                refine ⟨false, 33, by rfl, e33, ?_⟩; rw [if_pos rfl]
                go_simp; exact left_intro rfl (Stp.refl _) trivial
              refine ⟨?_, ?_⟩
              · rintro L a1 w1 hT - - ⟨h34, h35, h33, -⟩   -- 5: Op.binOp BinOp.neq 3 t34 t35 3
                have e34 : a1.tmps.getD 34 undef = _ := h34
                have f34 := getD_form e34
                have e35 : a1.tmps.getD 35 undef = _ := h35
                have f35 := getD_form e35
                have e33 : a1.tmps.getD 33 undef = _ := h33
                have f33 := getD_form e33
                clear h34 h35 h33
                refine ⟨false, 33, by rfl, e33, ?_⟩; rw [if_pos rfl]
                go_simp; exact left_intro rfl (Stp.refl _) trivial
              refine ⟨?_, ?_⟩
              · rintro L a1 w1 hT - - ⟨h33, h36, -⟩   -- 6: Op.pick t33 (const (Value.bool true)) t36
                have e33 : a1.tmps.getD 33 undef = _ := h33
                have f33 := getD_form e33
                have e36 : a1.tmps.getD 36 undef = _ := h36
                have f36 := getD_form e36
                clear h33 h36
                go_simp; exact left_intro rfl (Stp.refl _) trivial
              refine ⟨?_, ?_⟩
              · rintro L a1 w1 hT - - ⟨h37, -⟩   -- 7: Op.move t37
                have e37 : a1.tmps.getD 37 undef = _ := h37
                have f37 := getD_form e37
                clear h37
                go_simp; exact left_intro rfl (Stp.refl _) trivial
              refine ⟨?_, ?_⟩
              · rintro L a1 w1 hT - - ⟨h11, h38, -⟩   -- 8: Op.move t11
                have e11 : a1.tmps.getD 11 undef = _ := h11
                have f11 := getD_form e11
                have e38 : a1.tmps.getD 38 undef = _ := h38
                have f38 := getD_form e38
                clear h11 h38
                refine ⟨false, 38, by rfl, e38, ?_⟩; rw [if_pos rfl]
                go_simp; exact left_intro rfl (Stp.refl _) trivial
              refine ⟨?_, ?_⟩
              · rintro L a1 w1 hT - - ⟨h39, h38, -⟩   -- 9: Op.binOp BinOp.eql 3 t39 (const (0:i64)) 3
                have e39 : a1.tmps.getD 39 undef = _ := h39
                have f39 := getD_form e39
                have e38 : a1.tmps.getD 38 undef = _ := h38
                have f38 := getD_form e38
                clear h39 h38
                refine ⟨false, 38, by rfl, e38, ?_⟩; rw [if_pos rfl]
                go_simp; exact left_intro rfl (Stp.refl _) trivial
              refine ⟨?_, ?_⟩
              · rintro L a1 w1 hT - - ⟨h40, h38, -⟩   -- 10: Op.move t40
                have e40 : a1.tmps.getD 40 undef = _ := h40
                have f40 := getD_form e40
                have e38 : a1.tmps.getD 38 undef = _ := h38
                have f38 := getD_form e38
                clear h40 h38
                refine ⟨false, 38, by rfl, e38, ?_⟩; rw [if_pos rfl]
                go_simp; exact left_intro rfl (Stp.refl _) trivial
              refine ⟨?_, ?_⟩
              · rintro L a1 w1 hT - - ⟨h9, h41, -⟩   -- 11: Op.move t9
                have e9 : a1.tmps.getD 9 undef = _ := h9
                have f9 := getD_form e9
                have e41 : a1.tmps.getD 41 undef = _ := h41
                have f41 := getD_form e41
                clear h9 h41
                refine ⟨false, 41, by rfl, e41, ?_⟩; rw [if_neg (by decide)]
                exact left_intro rfl (Stp.refl _) trivial
              refine ⟨?_, ?_⟩
              · rintro L a1 w1 hT - - ⟨h41, -⟩   -- 12: Op.call { value (Operand.func 48), args := #[const (Value.bool true)], argTypes := #[4] }
                have e41 : a1.tmps.getD 41 undef = _ := h41
                have f41 := getD_form e41
                clear h41
                refine ⟨false, 41, by rfl, e41, ?_⟩; rw [if_neg (by decide)]
                exact left_intro rfl (Stp.refl _) trivial
              refine ⟨?_, ?_⟩
              · rintro L a1 w1 hT - - ⟨h4, h41, -⟩   -- 13: Op.load 65 t4
                have e4 : a1.tmps.getD 4 undef = _ := h4
                have f4 := getD_form e4
                have e41 : a1.tmps.getD 41 undef = _ := h41
                have f41 := getD_form e41
                clear h4 h41
                refine ⟨false, 41, by rfl, e41, ?_⟩; rw [if_neg (by decide)]
                exact left_intro rfl (Stp.refl _) trivial
              refine ⟨?_, ?_⟩
              · rintro L a1 w1 hT - - ⟨h44, h41, -⟩   -- 14: Op.call { value (Operand.func 46), args := #[t44], argTypes := #[65] }
                have e44 : a1.tmps.getD 44 undef = _ := h44
                have f44 := getD_form e44
                have e41 : a1.tmps.getD 41 undef = _ := h41
                have f41 := getD_form e41
                clear h44 h41
                refine ⟨false, 41, by rfl, e41, ?_⟩; rw [if_neg (by decide)]
                exact left_intro rfl (Stp.refl _) trivial
              refine ⟨?_, ?_⟩
              · rintro L a1 w1 hT - - ⟨h45, h41, -⟩   -- 15: Op.call { value (Operand.func 49), args := #[t45], argTypes := #[72] }
                have e45 : a1.tmps.getD 45 undef = _ := h45
                have f45 := getD_form e45
                have e41 : a1.tmps.getD 41 undef = _ := h41
                have f41 := getD_form e41
                clear h45 h41
                refine ⟨false, 41, by rfl, e41, ?_⟩; rw [if_neg (by decide)]
                exact left_intro rfl (Stp.refl _) trivial
              refine ⟨?_, ?_⟩
              · rintro L a1 w1 hT - - ⟨h43, h46, h41, -⟩   -- 16: Op.binOp BinOp.add 9 t43 t46 9
                have e43 : a1.tmps.getD 43 undef = _ := h43
                have f43 := getD_form e43
                have e46 : a1.tmps.getD 46 undef = _ := h46
                have f46 := getD_form e46
                have e41 : a1.tmps.getD 41 undef = _ := h41
                have f41 := getD_form e41
                clear h43 h46 h41
                refine ⟨false, 41, by rfl, e41, ?_⟩; rw [if_neg (by decide)]
                exact left_intro rfl (Stp.refl _) trivial
              refine ⟨?_, ?_⟩
              · rintro L a1 w1 hT - - ⟨h5, h41, -⟩   -- 17: Op.load 65 t5
                have e5 : a1.tmps.getD 5 undef = _ := h5
                have f5 := getD_form e5
                have e41 : a1.tmps.getD 41 undef = _ := h41
                have f41 := getD_form e41
                clear h5 h41
                refine ⟨false, 41, by rfl, e41, ?_⟩; rw [if_neg (by decide)]
                exact left_intro rfl (Stp.refl _) trivial
              refine ⟨?_, ?_⟩
              · rintro L a1 w1 hT - - ⟨h48, h41, -⟩   -- 18: Op.call { value (Operand.func 46), args := #[t48], argTypes := #[65] }
                have e48 : a1.tmps.getD 48 undef = _ := h48
                have f48 := getD_form e48
                have e41 : a1.tmps.getD 41 undef = _ := h41
                have f41 := getD_form e41
                clear h48 h41
                refine ⟨false, 41, by rfl, e41, ?_⟩; rw [if_neg (by decide)]
                exact left_intro rfl (Stp.refl _) trivial
              refine ⟨?_, ?_⟩
              · rintro L a1 w1 hT - - ⟨h49, h41, -⟩   -- 19: Op.call { value (Operand.func 49), args := #[t49], argTypes := #[72] }
                have e49 : a1.tmps.getD 49 undef = _ := h49
                have f49 := getD_form e49
                have e41 : a1.tmps.getD 41 undef = _ := h41
                have f41 := getD_form e41
                clear h49 h41
                refine ⟨false, 41, by rfl, e41, ?_⟩; rw [if_neg (by decide)]
                exact left_intro rfl (Stp.refl _) trivial
              refine ⟨?_, ?_⟩
              · rintro L a1 w1 hT - - ⟨h47, h50, h41, -⟩   -- 20: Op.binOp BinOp.add 9 t47 t50 9
                have e47 : a1.tmps.getD 47 undef = _ := h47
                have f47 := getD_form e47
                have e50 : a1.tmps.getD 50 undef = _ := h50
                have f50 := getD_form e50
                have e41 : a1.tmps.getD 41 undef = _ := h41
                have f41 := getD_form e41
                clear h47 h50 h41
                refine ⟨false, 41, by rfl, e41, ?_⟩; rw [if_neg (by decide)]
                exact left_intro rfl (Stp.refl _) trivial
              refine ⟨?_, ?_⟩
              · rintro L a1 w1 hT - - ⟨h42, h51, h41, -⟩   -- 21: Op.binOp BinOp.neq 9 t42 t51 9
                have e42 : a1.tmps.getD 42 undef = _ := h42
                have f42 := getD_form e42
                have e51 : a1.tmps.getD 51 undef = _ := h51
                have f51 := getD_form e51
                have e41 : a1.tmps.getD 41 undef = _ := h41
                have f41 := getD_form e41
                clear h42 h51 h41
                refine ⟨false, 41, by rfl, e41, ?_⟩; rw [if_neg (by decide)]
                exact left_intro rfl (Stp.refl _) trivial
              refine ⟨?_, ?_⟩
              · rintro L a1 w1 hT - - ⟨h41, h52, h38, -⟩   -- 22: Op.pick t41 t52 (const (Value.bool false))
                have e41 : a1.tmps.getD 41 undef = _ := h41
                have f41 := getD_form e41
                have e52 : a1.tmps.getD 52 undef = _ := h52
                have f52 := getD_form e52
                have e38 : a1.tmps.getD 38 undef = _ := h38
                have f38 := getD_form e38
                clear h41 h52 h38
                refine ⟨false, 38, by rfl, e38, ?_⟩; rw [if_pos rfl]
                go_simp; exact left_intro rfl (Stp.refl _) trivial
              refine ⟨?_, ?_⟩
              · rintro L a1 w1 hT - - ⟨h38, h53, -⟩   -- 23: Op.pick t38 (const (Value.bool true)) t53
                have e38 : a1.tmps.getD 38 undef = _ := h38
                have f38 := getD_form e38
                have e53 : a1.tmps.getD 53 undef = _ := h53
                have f53 := getD_form e53
                clear h38 h53
                go_simp; exact left_intro rfl (Stp.refl _) trivial
              refine ⟨?_, ?_⟩
              · rintro L a1 w1 hT - - ⟨h54, -⟩   -- 24: Op.move t54
                have e54 : a1.tmps.getD 54 undef = _ := h54
                have f54 := getD_form e54
                clear h54
                go_simp; exact left_intro rfl (Stp.refl _) trivial
              refine ⟨?_, ?_⟩
              · rintro L a1 w1 hT - - ⟨h11, h55, -⟩   -- 25: Op.move t11
                have e11 : a1.tmps.getD 11 undef = _ := h11
                have f11 := getD_form e11
                have e55 : a1.tmps.getD 55 undef = _ := h55
                have f55 := getD_form e55
                clear h11 h55
                refine ⟨false, 55, by rfl, e55, ?_⟩; rw [if_pos rfl]
                go_simp; exact left_intro rfl (Stp.refl _) trivial
              refine ⟨?_, ?_⟩
              · rintro L a1 w1 hT - - ⟨h56, h55, -⟩   -- 26: Op.binOp BinOp.neq 3 t56 (const (0:i64)) 3
                have e56 : a1.tmps.getD 56 undef = _ := h56
                have f56 := getD_form e56
                have e55 : a1.tmps.getD 55 undef = _ := h55
                have f55 := getD_form e55
                clear h56 h55
                refine ⟨false, 55, by rfl, e55, ?_⟩; rw [if_pos rfl]
                go_simp; exact left_intro rfl (Stp.refl _) trivial
              refine ⟨?_, ?_⟩
              · rintro L a1 w1 hT - - ⟨h57, h55, -⟩   -- 27: Op.move t57
                have e57 : a1.tmps.getD 57 undef = _ := h57
                have f57 := getD_form e57
                have e55 : a1.tmps.getD 55 undef = _ := h55
                have f55 := getD_form e55
                clear h57 h55
                refine ⟨false, 55, by rfl, e55, ?_⟩; rw [if_pos rfl]
                go_simp; exact left_intro rfl (Stp.refl _) trivial
              refine ⟨?_, ?_⟩
              · rintro L a1 w1 hT - - ⟨h9, h58, -⟩   -- 28: Op.move t9
                have e9 : a1.tmps.getD 9 undef = _ := h9
                have f9 := getD_form e9
                have e58 : a1.tmps.getD 58 undef = _ := h58
                have f58 := getD_form e58
                clear h9 h58
                refine ⟨true, 58, by rfl, e58, ?_⟩; rw [if_pos rfl]
                go_simp; exact left_intro rfl (Stp.refl _) trivial
              refine ⟨?_, ?_⟩
              · rintro L a1 w1 hT - - ⟨h59, h58, -⟩   -- 29: Op.binOp BinOp.neq 9 t59 (const (Value.string { data := #[] })) 9
                have e59 : a1.tmps.getD 59 undef = _ := h59
                have f59 := getD_form e59
                have e58 : a1.tmps.getD 58 undef = _ := h58
                have f58 := getD_form e58
                clear h59 h58
                refine ⟨true, 58, by rfl, e58, ?_⟩; rw [if_pos rfl]
                go_simp; exact left_intro rfl (Stp.refl _) trivial
              refine ⟨?_, ?_⟩
              · rintro L a1 w1 hT - - ⟨h58, h60, h55, -⟩   -- 30: Op.pick t58 t60 (const (Value.bool false))
                have e58 : a1.tmps.getD 58 undef = _ := h58
                have f58 := getD_form e58
                have e60 : a1.tmps.getD 60 undef = _ := h60
                have f60 := getD_form e60
                have e55 : a1.tmps.getD 55 undef = _ := h55
                have f55 := getD_form e55
                clear h58 h60 h55
                refine ⟨false, 55, by rfl, e55, ?_⟩; rw [if_pos rfl]
                go_simp; exact left_intro rfl (Stp.refl _) trivial
              refine ⟨?_, ?_⟩
              · rintro L a1 w1 hT - - ⟨h55, h61, -⟩   -- 31: Op.pick t55 (const (Value.bool true)) t61
                have e55 : a1.tmps.getD 55 undef = _ := h55
                have f55 := getD_form e55
                have e61 : a1.tmps.getD 61 undef = _ := h61
                have f61 := getD_form e61
                clear h55 h61
                go_simp; exact left_intro rfl (Stp.refl _) trivial
              trivial
            case hmono => repeat (first | exact trivial | refine ⟨fun _ _ _ _ h => h, ?_⟩)
            case hend =>
              intro w2 hT
              rintro _ rfl _ rfl _ rfl _ rfl _ rfl _ rfl _ rfl _ rfl _ rfl _ rfl _ rfl _ rfl _ rfl _ rfl _ rfl _ rfl _ rfl _ rfl _ rfl _ rfl _ rfl _ rfl _ rfl _ rfl _ rfl _ rfl _ rfl _ rfl _ rfl _ rfl _ rfl _ rfl
              simp only [relEnd, Act.put, List.setIfInBounds_toArray, List.set_cons_succ, List.set_cons_zero]
              replace B0 := B0.at_ hT
              replace B1 := B1.at_ hT
              replace B2 := B2.at_ hT
              replace hB := hB.trans (Below.mono hT hB.size)
              clear hT
              have k64 := B0.cellv h64
              go_wp2_with (first | ((refine wpList_load_blk (by rfl) 61 (.tmp 3) (by rfl) 0 (by rfl) (B0) ((leafC l v _).toArray) whole_at _ Try.underlying61 (by rfl) hz0' ?_; simp only [Act.put, List.setIfInBounds_toArray, List.set_cons_succ, List.set_cons_zero])) | ((go_at_call 50; (with_reducible refine (LT.out _).mono ?_)); rintro e w1 ⟨rfl, h1⟩; replace B0 := B0.at_ h1; replace B1 := B1.at_ h1; replace B2 := B2.at_ h1; replace hB := hB.trans (h1.mono hB.size); clear h1))
              go_ret
              exact ⟨rfl, hB⟩
    · rw [h] at BI CK
      clear hI h hO
      by_cases c1 : i < 0
      · have d1 : decide (i < 0) = true := by simp; omega
        have hO : D.leafO l v i = [] := by unfold D.leafO D.leafE; rw [if_neg (by rw [if_neg (by omega)]; decide)]
        have hE : D.leafE i = 1 := by unfold D.leafE; rw [if_neg (by omega)]
        rw [hO, hE] at BL
        clear hO hE
        go_enter Try.func13, Try.ntmps13
        go_wp2_with (first | (refine wpList_load_blk (by rfl) 61 (.tmp 3) (by rfl) 0 (by rfl) (B0) ((leafC l v _).toArray) whole_at _ Try.underlying61 (by rfl) hz0' ?_; simp only [Act.put, List.setIfInBounds_toArray, List.set_cons_succ, List.set_cons_zero]) | (refine wpList_load_blk (by rfl) 65 (.tmp 4) (by rfl) 0 (by rfl) (B1) ((itemC _ p0 s0 _).toArray) whole_at _ Try.underlying65 (by rfl) hz1' ?_; simp only [Act.put, List.setIfInBounds_toArray, List.set_cons_succ, List.set_cons_zero]) | (refine wpList_load_blk (by rfl) 65 (.tmp 5) (by rfl) 0 (by rfl) (B2) ((itemC _ p1 s1 _).toArray) whole_at _ Try.underlying65 (by rfl) hz2' ?_; simp only [Act.put, List.setIfInBounds_toArray, List.set_cons_succ, List.set_cons_zero]) | (refine wpList_build (by rfl) 69 ([(0, .tmp 19), (1, .tmp 20)]) (by rfl) ([(0, .agg (itemC _ p0 s0 _).toArray), (1, .agg (itemC _ p1 s1 _).toArray)]) (by rfl) (.agg (innerC _ p0 s0 _ _ p1 s1 _).toArray) (hbd) ?_; simp only [Act.put, List.setIfInBounds_toArray, List.set_cons_succ, List.set_cons_zero]) | (go_at_call 44; first | ((with_reducible refine (BL.out _).mono ?_); rintro e w1 ⟨rfl, h1⟩; replace B0 := B0.at_ h1; replace B1 := B1.at_ h1; replace B2 := B2.at_ h1; replace hB := hB.trans (h1.mono hB.size); clear h1) | ((with_reducible refine (BI.out _).mono ?_); rintro e w1 ⟨rfl, h1⟩; replace B0 := B0.at_ h1; replace B1 := B1.at_ h1; replace B2 := B2.at_ h1; replace hB := hB.trans (h1.mono hB.size); clear h1)))
        apply wp_region_rel_below [[(4, none)], [(26, some 0)], [(5, none)], [(28, some 2)], [(27, some 1), (29, some 3)], [(30, some 4)]] [eqv _, eqv _, eqv _, eqv _, eqv _, eqv _] (by kernel_rfl) (by kernel_rfl)
        case hobs =>
          refine ⟨?_, ?_⟩
          · rintro L a1 w1 hT - - ⟨h4, -⟩   -- 0: Op.load 65 t4
            have e4 : a1.tmps.getD 4 undef = _ := h4
            have f4 := getD_form e4
            clear h4
            exact wp_load_blkL 65 (.tmp 4) rfl _ e4 (cs := itemC _ p0 s0 _) B1 hT _ Try.underlying65 (by rfl) hz1 (left_intro rfl (Stp.refl _) trivial)
          refine ⟨?_, ?_⟩
          · rintro L a1 w1 hT - - ⟨h26, -⟩   -- 1: Op.call { value (Operand.func 46), args := #[t26], argTypes := #[65] }
            have e26 : a1.tmps.getD 26 undef = _ := h26
            have f26 := getD_form e26
            clear h26
            go_simp; go_at_call 46; (with_reducible refine (T0.out _).mono ?_); rintro e w2 ⟨rfl, hb⟩; exact left_intro rfl (Stp.of hb) trivial
          refine ⟨?_, ?_⟩
          · rintro L a1 w1 hT - - ⟨h5, -⟩   -- 2: Op.load 65 t5
            have e5 : a1.tmps.getD 5 undef = _ := h5
            have f5 := getD_form e5
            clear h5
            exact wp_load_blkL 65 (.tmp 5) rfl _ e5 (cs := itemC _ p1 s1 _) B2 hT _ Try.underlying65 (by rfl) hz2 (left_intro rfl (Stp.refl _) trivial)
          refine ⟨?_, ?_⟩
          · rintro L a1 w1 hT - - ⟨h28, -⟩   -- 3: Op.call { value (Operand.func 46), args := #[t28], argTypes := #[65] }
            have e28 : a1.tmps.getD 28 undef = _ := h28
            have f28 := getD_form e28
            clear h28
            go_simp; go_at_call 46; (with_reducible refine (T1.out _).mono ?_); rintro e w2 ⟨rfl, hb⟩; exact left_intro rfl (Stp.of hb) trivial
          refine ⟨?_, ?_⟩
          · rintro L a1 w1 hT - - ⟨h27, h29, -⟩   -- 4: Op.call { value (Operand.func 45), args := #[t27, t29], argTypes := #[72, 72] }
            have e27 : a1.tmps.getD 27 undef = _ := h27
            have f27 := getD_form e27
            have e29 : a1.tmps.getD 29 undef = _ := h29
            have f29 := getD_form e29
            clear h27 h29
            go_simp; go_at_call 45; (with_reducible refine (CK.out _).mono ?_); rintro e w2 ⟨rfl, hb⟩; exact left_intro rfl (Stp.of hb) trivial
          refine ⟨?_, ?_⟩
          · rintro L a1 w1 hT - - ⟨h30, -⟩   -- 5: Op.assign t30
            have e30 : a1.tmps.getD 30 undef = _ := h30
            have f30 := getD_form e30
            clear h30
            go_simp; exact left_intro rfl (Stp.refl _) trivial
          trivial
        case hmono => repeat (first | exact trivial | refine ⟨fun _ _ _ _ h => h, ?_⟩)
        case hend =>
          intro w2 hT
          rintro _ rfl _ rfl _ rfl _ rfl _ rfl _ rfl
          simp only [relEnd, Act.put, List.setIfInBounds_toArray, List.set_cons_succ, List.set_cons_zero]
          replace B0 := B0.at_ hT
          replace B1 := B1.at_ hT
          replace B2 := B2.at_ hT
          replace hB := hB.trans (Below.mono hT hB.size)
          clear hT
          have k64 := B0.cellv h64
          go_wp2
          apply wp_region_rel_below [[], [(31, some 0)], [(32, some 1)], [(10, none), (33, some 2)], [(11, none), (33, some 2)], [(34, some 3), (35, some 4), (33, some 2)], [(33, some 2), (36, some 5)], [(37, some 6)], [(11, none), (38, some 7)], [(39, some 8), (38, some 7)], [(40, some 9), (38, some 7)], [(9, none), (41, some 10)], [(41, some 10)], [(4, none), (41, some 10)], [(44, some 13), (41, some 10)], [(45, some 14), (41, some 10)], [(43, some 12), (46, some 15), (41, some 10)], [(5, none), (41, some 10)], [(48, some 17), (41, some 10)], [(49, some 18), (41, some 10)], [(47, some 16), (50, some 19), (41, some 10)], [(42, some 11), (51, some 20), (41, some 10)], [(41, some 10), (52, some 21), (38, some 7)], [(38, some 7), (53, some 22)], [(54, some 23)], [(11, none), (55, some 24)], [(56, some 25), (55, some 24)], [(57, some 26), (55, some 24)], [(9, none), (58, some 27)], [(59, some 28), (58, some 27)], [(58, some 27), (60, some 29), (55, some 24)], [(55, some 24), (61, some 30)]] [eqv _, eqv _, eqv _, eqv _, eqv _, eqv _, eqv _, eqv _, eqv _, eqv _, eqv _, eqv _, eqv _, eqv _, eqv _, eqv _, eqv _, eqv _, eqv _, eqv _, eqv _, eqv _, eqv _, eqv _, eqv _, eqv _, eqv _, eqv _, eqv _, eqv _, eqv _, eqv _] (by kernel_rfl) (by kernel_rfl)
          case hobs =>
            refine ⟨?_, ?_⟩
            · rintro L a1 w1 hT - - -   -- 0: Op.call { value (Operand.func 47), args := #[], argTypes := #[] }
              go_simp; go_at_call 47; (with_reducible refine (AA.out _).mono ?_); rintro e w2 ⟨rfl, hb⟩; exact left_intro rfl (Stp.of hb) trivial
            refine ⟨?_, ?_⟩
            · rintro L a1 w1 hT - - ⟨h31, -⟩   -- 1: Op.unOp UnOp.not 4 t31
              have e31 : a1.tmps.getD 31 undef = _ := h31
              have f31 := getD_form e31
              clear h31
              go_simp; exact left_intro rfl (Stp.refl _) trivial
            refine ⟨?_, ?_⟩
            · rintro L a1 w1 hT - - ⟨h32, -⟩   -- 2: Op.move t32
              have e32 : a1.tmps.getD 32 undef = _ := h32
              have f32 := getD_form e32
              clear h32
              go_simp; exact left_intro rfl (Stp.refl _) trivial
            refine ⟨?_, ?_⟩
            · rintro L a1 w1 hT - - ⟨h10, h33, -⟩   -- 3: Op.move t10
              have e10 : a1.tmps.getD 10 undef = _ := h10
              have f10 := getD_form e10
              have e33 : a1.tmps.getD 33 undef = _ := h33
              have f33 := getD_form e33
              clear h10 h33
              refine ⟨false, 33, by rfl, e33, ?_⟩; rw [if_pos rfl]
              go_simp; exact left_intro rfl (Stp.refl _) trivial
            refine ⟨?_, ?_⟩
            · rintro L a1 w1 hT - - ⟨h11, h33, -⟩   -- 4: Op.move t11
              have e11 : a1.tmps.getD 11 undef = _ := h11
              have f11 := getD_form e11
              have e33 : a1.tmps.getD 33 undef = _ := h33
              have f33 := getD_form e33
              clear h11 h33
              refine ⟨false, 33, by rfl, e33, ?_⟩; rw [if_pos rfl]
              go_simp; exact left_intro rfl (Stp.refl _) trivial
            refine ⟨?_, ?_⟩
            · rintro L a1 w1 hT - - ⟨h34, h35, h33, -⟩   -- 5: Op.binOp BinOp.neq 3 t34 t35 3
              have e34 : a1.tmps.getD 34 undef = _ := h34
              have f34 := getD_form e34
              have e35 : a1.tmps.getD 35 undef = _ := h35
              have f35 := getD_form e35
              have e33 : a1.tmps.getD 33 undef = _ := h33
              have f33 := getD_form e33
              clear h34 h35 h33
              refine ⟨false, 33, by rfl, e33, ?_⟩; rw [if_pos rfl]
              go_simp; exact left_intro rfl (Stp.refl _) trivial
            refine ⟨?_, ?_⟩
            · rintro L a1 w1 hT - - ⟨h33, h36, -⟩   -- 6: Op.pick t33 (const (Value.bool true)) t36
              have e33 : a1.tmps.getD 33 undef = _ := h33
              have f33 := getD_form e33
              have e36 : a1.tmps.getD 36 undef = _ := h36
              have f36 := getD_form e36
              clear h33 h36
              go_simp; exact left_intro rfl (Stp.refl _) trivial
            refine ⟨?_, ?_⟩
            · rintro L a1 w1 hT - - ⟨h37, -⟩   -- 7: Op.move t37
              have e37 : a1.tmps.getD 37 undef = _ := h37
              have f37 := getD_form e37
              clear h37
              go_simp; exact left_intro rfl (Stp.refl _) trivial
            refine ⟨?_, ?_⟩
            · rintro L a1 w1 hT - - ⟨h11, h38, -⟩   -- 8: Op.move t11
              have e11 : a1.tmps.getD 11 undef = _ := h11
              have f11 := getD_form e11
              have e38 : a1.tmps.getD 38 undef = _ := h38
              have f38 := getD_form e38
              clear h11 h38
              refine ⟨false, 38, by rfl, e38, ?_⟩; rw [if_pos rfl]
              go_simp; exact left_intro rfl (Stp.refl _) trivial
            refine ⟨?_, ?_⟩
            · rintro L a1 w1 hT - - ⟨h39, h38, -⟩   -- 9: Op.binOp BinOp.eql 3 t39 (const (0:i64)) 3
              have e39 : a1.tmps.getD 39 undef = _ := h39
              have f39 := getD_form e39
              have e38 : a1.tmps.getD 38 undef = _ := h38
              have f38 := getD_form e38
              clear h39 h38
              refine ⟨false, 38, by rfl, e38, ?_⟩; rw [if_pos rfl]
              go_simp; exact left_intro rfl (Stp.refl _) trivial
            refine ⟨?_, ?_⟩
            · rintro L a1 w1 hT - - ⟨h40, h38, -⟩   -- 10: Op.move t40
              have e40 : a1.tmps.getD 40 undef = _ := h40
              have f40 := getD_form e40
              have e38 : a1.tmps.getD 38 undef = _ := h38
              have f38 := getD_form e38
              clear h40 h38
              refine ⟨false, 38, by rfl, e38, ?_⟩; rw [if_pos rfl]
              go_simp; exact left_intro rfl (Stp.refl _) trivial
            refine ⟨?_, ?_⟩
            · rintro L a1 w1 hT - - ⟨h9, h41, -⟩   -- 11: Op.move t9
              have e9 : a1.tmps.getD 9 undef = _ := h9
              have f9 := getD_form e9
              have e41 : a1.tmps.getD 41 undef = _ := h41
              have f41 := getD_form e41
              clear h9 h41
              refine ⟨false, 41, by rfl, e41, ?_⟩; rw [if_neg (by decide)]
              exact left_intro rfl (Stp.refl _) trivial
            refine ⟨?_, ?_⟩
            · rintro L a1 w1 hT - - ⟨h41, -⟩   -- 12: Op.call { value (Operand.func 48), args := #[const (Value.bool true)], argTypes := #[4] }
              have e41 : a1.tmps.getD 41 undef = _ := h41
              have f41 := getD_form e41
              clear h41
              refine ⟨false, 41, by rfl, e41, ?_⟩; rw [if_neg (by decide)]
              exact left_intro rfl (Stp.refl _) trivial
            refine ⟨?_, ?_⟩
            · rintro L a1 w1 hT - - ⟨h4, h41, -⟩   -- 13: Op.load 65 t4
              have e4 : a1.tmps.getD 4 undef = _ := h4
              have f4 := getD_form e4
              have e41 : a1.tmps.getD 41 undef = _ := h41
              have f41 := getD_form e41
              clear h4 h41
              refine ⟨false, 41, by rfl, e41, ?_⟩; rw [if_neg (by decide)]
              exact left_intro rfl (Stp.refl _) trivial
            refine ⟨?_, ?_⟩
            · rintro L a1 w1 hT - - ⟨h44, h41, -⟩   -- 14: Op.call { value (Operand.func 46), args := #[t44], argTypes := #[65] }
              have e44 : a1.tmps.getD 44 undef = _ := h44
              have f44 := getD_form e44
              have e41 : a1.tmps.getD 41 undef = _ := h41
              have f41 := getD_form e41
              clear h44 h41
              refine ⟨false, 41, by rfl, e41, ?_⟩; rw [if_neg (by decide)]
              exact left_intro rfl (Stp.refl _) trivial
            refine ⟨?_, ?_⟩
            · rintro L a1 w1 hT - - ⟨h45, h41, -⟩   -- 15: Op.call { value (Operand.func 49), args := #[t45], argTypes := #[72] }
              have e45 : a1.tmps.getD 45 undef = _ := h45
              have f45 := getD_form e45
              have e41 : a1.tmps.getD 41 undef = _ := h41
              have f41 := getD_form e41
              clear h45 h41
              refine ⟨false, 41, by rfl, e41, ?_⟩; rw [if_neg (by decide)]
              exact left_intro rfl (Stp.refl _) trivial
            refine ⟨?_, ?_⟩
            · rintro L a1 w1 hT - - ⟨h43, h46, h41, -⟩   -- 16: Op.binOp BinOp.add 9 t43 t46 9
              have e43 : a1.tmps.getD 43 undef = _ := h43
              have f43 := getD_form e43
              have e46 : a1.tmps.getD 46 undef = _ := h46
              have f46 := getD_form e46
              have e41 : a1.tmps.getD 41 undef = _ := h41
              have f41 := getD_form e41
              clear h43 h46 h41
              refine ⟨false, 41, by rfl, e41, ?_⟩; rw [if_neg (by decide)]
              exact left_intro rfl (Stp.refl _) trivial
            refine ⟨?_, ?_⟩
            · rintro L a1 w1 hT - - ⟨h5, h41, -⟩   -- 17: Op.load 65 t5
              have e5 : a1.tmps.getD 5 undef = _ := h5
              have f5 := getD_form e5
              have e41 : a1.tmps.getD 41 undef = _ := h41
              have f41 := getD_form e41
              clear h5 h41
              refine ⟨false, 41, by rfl, e41, ?_⟩; rw [if_neg (by decide)]
              exact left_intro rfl (Stp.refl _) trivial
            refine ⟨?_, ?_⟩
            · rintro L a1 w1 hT - - ⟨h48, h41, -⟩   -- 18: Op.call { value (Operand.func 46), args := #[t48], argTypes := #[65] }
              have e48 : a1.tmps.getD 48 undef = _ := h48
              have f48 := getD_form e48
              have e41 : a1.tmps.getD 41 undef = _ := h41
              have f41 := getD_form e41
              clear h48 h41
              refine ⟨false, 41, by rfl, e41, ?_⟩; rw [if_neg (by decide)]
              exact left_intro rfl (Stp.refl _) trivial
            refine ⟨?_, ?_⟩
            · rintro L a1 w1 hT - - ⟨h49, h41, -⟩   -- 19: Op.call { value (Operand.func 49), args := #[t49], argTypes := #[72] }
              have e49 : a1.tmps.getD 49 undef = _ := h49
              have f49 := getD_form e49
              have e41 : a1.tmps.getD 41 undef = _ := h41
              have f41 := getD_form e41
              clear h49 h41
              refine ⟨false, 41, by rfl, e41, ?_⟩; rw [if_neg (by decide)]
              exact left_intro rfl (Stp.refl _) trivial
            refine ⟨?_, ?_⟩
            · rintro L a1 w1 hT - - ⟨h47, h50, h41, -⟩   -- 20: Op.binOp BinOp.add 9 t47 t50 9
              have e47 : a1.tmps.getD 47 undef = _ := h47
              have f47 := getD_form e47
              have e50 : a1.tmps.getD 50 undef = _ := h50
              have f50 := getD_form e50
              have e41 : a1.tmps.getD 41 undef = _ := h41
              have f41 := getD_form e41
              clear h47 h50 h41
              refine ⟨false, 41, by rfl, e41, ?_⟩; rw [if_neg (by decide)]
              exact left_intro rfl (Stp.refl _) trivial
            refine ⟨?_, ?_⟩
            · rintro L a1 w1 hT - - ⟨h42, h51, h41, -⟩   -- 21: Op.binOp BinOp.neq 9 t42 t51 9
              have e42 : a1.tmps.getD 42 undef = _ := h42
              have f42 := getD_form e42
              have e51 : a1.tmps.getD 51 undef = _ := h51
              have f51 := getD_form e51
              have e41 : a1.tmps.getD 41 undef = _ := h41
              have f41 := getD_form e41
              clear h42 h51 h41
              refine ⟨false, 41, by rfl, e41, ?_⟩; rw [if_neg (by decide)]
              exact left_intro rfl (Stp.refl _) trivial
            refine ⟨?_, ?_⟩
            · rintro L a1 w1 hT - - ⟨h41, h52, h38, -⟩   -- 22: Op.pick t41 t52 (const (Value.bool false))
              have e41 : a1.tmps.getD 41 undef = _ := h41
              have f41 := getD_form e41
              have e52 : a1.tmps.getD 52 undef = _ := h52
              have f52 := getD_form e52
              have e38 : a1.tmps.getD 38 undef = _ := h38
              have f38 := getD_form e38
              clear h41 h52 h38
              refine ⟨false, 38, by rfl, e38, ?_⟩; rw [if_pos rfl]
              go_simp; exact left_intro rfl (Stp.refl _) trivial
            refine ⟨?_, ?_⟩
            · rintro L a1 w1 hT - - ⟨h38, h53, -⟩   -- 23: Op.pick t38 (const (Value.bool true)) t53
              have e38 : a1.tmps.getD 38 undef = _ := h38
              have f38 := getD_form e38
              have e53 : a1.tmps.getD 53 undef = _ := h53
              have f53 := getD_form e53
              clear h38 h53
              go_simp; exact left_intro rfl (Stp.refl _) trivial
            refine ⟨?_, ?_⟩
            · rintro L a1 w1 hT - - ⟨h54, -⟩   -- 24: Op.move t54
              have e54 : a1.tmps.getD 54 undef = _ := h54
              have f54 := getD_form e54
              clear h54
              go_simp; exact left_intro rfl (Stp.refl _) trivial
            refine ⟨?_, ?_⟩
            · rintro L a1 w1 hT - - ⟨h11, h55, -⟩   -- 25: Op.move t11
              have e11 : a1.tmps.getD 11 undef = _ := h11
              have f11 := getD_form e11
              have e55 : a1.tmps.getD 55 undef = _ := h55
              have f55 := getD_form e55
              clear h11 h55
              refine ⟨false, 55, by rfl, e55, ?_⟩; rw [if_pos rfl]
              go_simp; exact left_intro rfl (Stp.refl _) trivial
            refine ⟨?_, ?_⟩
            · rintro L a1 w1 hT - - ⟨h56, h55, -⟩   -- 26: Op.binOp BinOp.neq 3 t56 (const (0:i64)) 3
              have e56 : a1.tmps.getD 56 undef = _ := h56
              have f56 := getD_form e56
              have e55 : a1.tmps.getD 55 undef = _ := h55
              have f55 := getD_form e55
              clear h56 h55
              refine ⟨false, 55, by rfl, e55, ?_⟩; rw [if_pos rfl]
              go_simp; exact left_intro rfl (Stp.refl _) trivial
            refine ⟨?_, ?_⟩
            · rintro L a1 w1 hT - - ⟨h57, h55, -⟩   -- 27: Op.move t57
              have e57 : a1.tmps.getD 57 undef = _ := h57
              have f57 := getD_form e57
              have e55 : a1.tmps.getD 55 undef = _ := h55
              have f55 := getD_form e55
              clear h57 h55
              refine ⟨false, 55, by rfl, e55, ?_⟩; rw [if_pos rfl]
              go_simp; exact left_intro rfl (Stp.refl _) trivial
            refine ⟨?_, ?_⟩
            · rintro L a1 w1 hT - - ⟨h9, h58, -⟩   -- 28: Op.move t9
              have e9 : a1.tmps.getD 9 undef = _ := h9
              have f9 := getD_form e9
              have e58 : a1.tmps.getD 58 undef = _ := h58
              have f58 := getD_form e58
              clear h9 h58
              refine ⟨true, 58, by rfl, e58, ?_⟩; rw [if_pos rfl]
              go_simp; exact left_intro rfl (Stp.refl _) trivial
            refine ⟨?_, ?_⟩
            · rintro L a1 w1 hT - - ⟨h59, h58, -⟩   -- 29: Op.binOp BinOp.neq 9 t59 (const (Value.string { data := #[] })) 9
              have e59 : a1.tmps.getD 59 undef = _ := h59
              have f59 := getD_form e59
              have e58 : a1.tmps.getD 58 undef = _ := h58
              have f58 := getD_form e58
              clear h59 h58
              refine ⟨true, 58, by rfl, e58, ?_⟩; rw [if_pos rfl]
              go_simp; exact left_intro rfl (Stp.refl _) trivial
            refine ⟨?_, ?_⟩
            · rintro L a1 w1 hT - - ⟨h58, h60, h55, -⟩   -- 30: Op.pick t58 t60 (const (Value.bool false))
              have e58 : a1.tmps.getD 58 undef = _ := h58
              have f58 := getD_form e58
              have e60 : a1.tmps.getD 60 undef = _ := h60
              have f60 := getD_form e60
              have e55 : a1.tmps.getD 55 undef = _ := h55
              have f55 := getD_form e55
              clear h58 h60 h55
              refine ⟨false, 55, by rfl, e55, ?_⟩; rw [if_pos rfl]
              go_simp; exact left_intro rfl (Stp.refl _) trivial
            refine ⟨?_, ?_⟩
            · rintro L a1 w1 hT - - ⟨h55, h61, -⟩   -- 31: Op.pick t55 (const (Value.bool true)) t61
              have e55 : a1.tmps.getD 55 undef = _ := h55
              have f55 := getD_form e55
              have e61 : a1.tmps.getD 61 undef = _ := h61
              have f61 := getD_form e61
              clear h55 h61
              go_simp; exact left_intro rfl (Stp.refl _) trivial
            trivial
          case hmono => repeat (first | exact trivial | refine ⟨fun _ _ _ _ h => h, ?_⟩)
          case hend =>
            intro w2 hT
            rintro _ rfl _ rfl _ rfl _ rfl _ rfl _ rfl _ rfl _ rfl _ rfl _ rfl _ rfl _ rfl _ rfl _ rfl _ rfl _ rfl _ rfl _ rfl _ rfl _ rfl _ rfl _ rfl _ rfl _ rfl _ rfl _ rfl _ rfl _ rfl _ rfl _ rfl _ rfl _ rfl
            simp only [relEnd, Act.put, List.setIfInBounds_toArray, List.set_cons_succ, List.set_cons_zero]
            replace B0 := B0.at_ hT
            replace B1 := B1.at_ hT
            replace B2 := B2.at_ hT
            replace hB := hB.trans (Below.mono hT hB.size)
            clear hT
            have k64 := B0.cellv h64
            go_wp2
            go_ret
            exact ⟨rfl, hB⟩
      · have d1 : decide (i < 0) = false := by simp; omega
        by_cases c2 : 1073741824 < i
        · have d2 : decide (1073741824 < i) = true := by simp; omega
          have d2' : decide (i > 1073741824) = true := by simp; omega
          have hO : D.leafO l v i = [] := by unfold D.leafO D.leafE; rw [if_neg (by rw [if_neg (by omega)]; decide)]
          have hE : D.leafE i = 1 := by unfold D.leafE; rw [if_neg (by omega)]
          rw [hO, hE] at BL
          clear hO hE
          go_enter Try.func13, Try.ntmps13
          go_wp2_with (first | (refine wpList_load_blk (by rfl) 61 (.tmp 3) (by rfl) 0 (by rfl) (B0) ((leafC l v _).toArray) whole_at _ Try.underlying61 (by rfl) hz0' ?_; simp only [Act.put, List.setIfInBounds_toArray, List.set_cons_succ, List.set_cons_zero]) | (refine wpList_load_blk (by rfl) 65 (.tmp 4) (by rfl) 0 (by rfl) (B1) ((itemC _ p0 s0 _).toArray) whole_at _ Try.underlying65 (by rfl) hz1' ?_; simp only [Act.put, List.setIfInBounds_toArray, List.set_cons_succ, List.set_cons_zero]) | (refine wpList_load_blk (by rfl) 65 (.tmp 5) (by rfl) 0 (by rfl) (B2) ((itemC _ p1 s1 _).toArray) whole_at _ Try.underlying65 (by rfl) hz2' ?_; simp only [Act.put, List.setIfInBounds_toArray, List.set_cons_succ, List.set_cons_zero]) | (refine wpList_build (by rfl) 69 ([(0, .tmp 19), (1, .tmp 20)]) (by rfl) ([(0, .agg (itemC _ p0 s0 _).toArray), (1, .agg (itemC _ p1 s1 _).toArray)]) (by rfl) (.agg (innerC _ p0 s0 _ _ p1 s1 _).toArray) (hbd) ?_; simp only [Act.put, List.setIfInBounds_toArray, List.set_cons_succ, List.set_cons_zero]) | (go_at_call 44; first | ((with_reducible refine (BL.out _).mono ?_); rintro e w1 ⟨rfl, h1⟩; replace B0 := B0.at_ h1; replace B1 := B1.at_ h1; replace B2 := B2.at_ h1; replace hB := hB.trans (h1.mono hB.size); clear h1) | ((with_reducible refine (BI.out _).mono ?_); rintro e w1 ⟨rfl, h1⟩; replace B0 := B0.at_ h1; replace B1 := B1.at_ h1; replace B2 := B2.at_ h1; replace hB := hB.trans (h1.mono hB.size); clear h1)))
          apply wp_region_rel_below [[(4, none)], [(26, some 0)], [(5, none)], [(28, some 2)], [(27, some 1), (29, some 3)], [(30, some 4)]] [eqv _, eqv _, eqv _, eqv _, eqv _, eqv _] (by kernel_rfl) (by kernel_rfl)
          case hobs =>
            refine ⟨?_, ?_⟩
            · rintro L a1 w1 hT - - ⟨h4, -⟩   -- 0: Op.load 65 t4
              have e4 : a1.tmps.getD 4 undef = _ := h4
              have f4 := getD_form e4
              clear h4
              exact wp_load_blkL 65 (.tmp 4) rfl _ e4 (cs := itemC _ p0 s0 _) B1 hT _ Try.underlying65 (by rfl) hz1 (left_intro rfl (Stp.refl _) trivial)
            refine ⟨?_, ?_⟩
            · rintro L a1 w1 hT - - ⟨h26, -⟩   -- 1: Op.call { value (Operand.func 46), args := #[t26], argTypes := #[65] }
              have e26 : a1.tmps.getD 26 undef = _ := h26
              have f26 := getD_form e26
              clear h26
              go_simp; go_at_call 46; (with_reducible refine (T0.out _).mono ?_); rintro e w2 ⟨rfl, hb⟩; exact left_intro rfl (Stp.of hb) trivial
            refine ⟨?_, ?_⟩
            · rintro L a1 w1 hT - - ⟨h5, -⟩   -- 2: Op.load 65 t5
              have e5 : a1.tmps.getD 5 undef = _ := h5
              have f5 := getD_form e5
              clear h5
              exact wp_load_blkL 65 (.tmp 5) rfl _ e5 (cs := itemC _ p1 s1 _) B2 hT _ Try.underlying65 (by rfl) hz2 (left_intro rfl (Stp.refl _) trivial)
            refine ⟨?_, ?_⟩
            · rintro L a1 w1 hT - - ⟨h28, -⟩   -- 3: Op.call { value (Operand.func 46), args := #[t28], argTypes := #[65] }
              have e28 : a1.tmps.getD 28 undef = _ := h28
              have f28 := getD_form e28
              clear h28
              go_simp; go_at_call 46; (with_reducible refine (T1.out _).mono ?_); rintro e w2 ⟨rfl, hb⟩; exact left_intro rfl (Stp.of hb) trivial
            refine ⟨?_, ?_⟩
            · rintro L a1 w1 hT - - ⟨h27, h29, -⟩   -- 4: Op.call { value (Operand.func 45), args := #[t27, t29], argTypes := #[72, 72] }
              have e27 : a1.tmps.getD 27 undef = _ := h27
              have f27 := getD_form e27
              have e29 : a1.tmps.getD 29 undef = _ := h29
              have f29 := getD_form e29
              clear h27 h29
              go_simp; go_at_call 45; (with_reducible refine (CK.out _).mono ?_); rintro e w2 ⟨rfl, hb⟩; exact left_intro rfl (Stp.of hb) trivial
            refine ⟨?_, ?_⟩
            · rintro L a1 w1 hT - - ⟨h30, -⟩   -- 5: Op.assign t30
              have e30 : a1.tmps.getD 30 undef = _ := h30
              have f30 := getD_form e30
              clear h30
              go_simp; exact left_intro rfl (Stp.refl _) trivial
            trivial
          case hmono => repeat (first | exact trivial | refine ⟨fun _ _ _ _ h => h, ?_⟩)
          case hend =>
            intro w2 hT
            rintro _ rfl _ rfl _ rfl _ rfl _ rfl _ rfl
            simp only [relEnd, Act.put, List.setIfInBounds_toArray, List.set_cons_succ, List.set_cons_zero]
            replace B0 := B0.at_ hT
            replace B1 := B1.at_ hT
            replace B2 := B2.at_ hT
            replace hB := hB.trans (Below.mono hT hB.size)
            clear hT
            have k64 := B0.cellv h64
            go_wp2
            apply wp_region_rel_below [[], [(31, some 0)], [(32, some 1)], [(10, none), (33, some 2)], [(11, none), (33, some 2)], [(34, some 3), (35, some 4), (33, some 2)], [(33, some 2), (36, some 5)], [(37, some 6)], [(11, none), (38, some 7)], [(39, some 8), (38, some 7)], [(40, some 9), (38, some 7)], [(9, none), (41, some 10)], [(41, some 10)], [(4, none), (41, some 10)], [(44, some 13), (41, some 10)], [(45, some 14), (41, some 10)], [(43, some 12), (46, some 15), (41, some 10)], [(5, none), (41, some 10)], [(48, some 17), (41, some 10)], [(49, some 18), (41, some 10)], [(47, some 16), (50, some 19), (41, some 10)], [(42, some 11), (51, some 20), (41, some 10)], [(41, some 10), (52, some 21), (38, some 7)], [(38, some 7), (53, some 22)], [(54, some 23)], [(11, none), (55, some 24)], [(56, some 25), (55, some 24)], [(57, some 26), (55, some 24)], [(9, none), (58, some 27)], [(59, some 28), (58, some 27)], [(58, some 27), (60, some 29), (55, some 24)], [(55, some 24), (61, some 30)]] [eqv _, eqv _, eqv _, eqv _, eqv _, eqv _, eqv _, eqv _, eqv _, eqv _, eqv _, eqv _, eqv _, eqv _, eqv _, eqv _, eqv _, eqv _, eqv _, eqv _, eqv _, eqv _, eqv _, eqv _, eqv _, eqv _, eqv _, eqv _, eqv _, eqv _, eqv _, eqv _] (by kernel_rfl) (by kernel_rfl)
            case hobs =>
              refine ⟨?_, ?_⟩
              · rintro L a1 w1 hT - - -   -- 0: Op.call { value (Operand.func 47), args := #[], argTypes := #[] }
                go_simp; go_at_call 47; (with_reducible refine (AA.out _).mono ?_); rintro e w2 ⟨rfl, hb⟩; exact left_intro rfl (Stp.of hb) trivial
              refine ⟨?_, ?_⟩
              · rintro L a1 w1 hT - - ⟨h31, -⟩   -- 1: Op.unOp UnOp.not 4 t31
                have e31 : a1.tmps.getD 31 undef = _ := h31
                have f31 := getD_form e31
                clear h31
                go_simp; exact left_intro rfl (Stp.refl _) trivial
              refine ⟨?_, ?_⟩
              · rintro L a1 w1 hT - - ⟨h32, -⟩   -- 2: Op.move t32
                have e32 : a1.tmps.getD 32 undef = _ := h32
                have f32 := getD_form e32
                clear h32
                go_simp; exact left_intro rfl (Stp.refl _) trivial
              refine ⟨?_, ?_⟩
              · rintro L a1 w1 hT - - ⟨h10, h33, -⟩   -- 3: Op.move t10
                have e10 : a1.tmps.getD 10 undef = _ := h10
                have f10 := getD_form e10
                have e33 : a1.tmps.getD 33 undef = _ := h33
                have f33 := getD_form e33
                clear h10 h33
                refine ⟨false, 33, by rfl, e33, ?_⟩; rw [if_pos rfl]
                go_simp; exact left_intro rfl (Stp.refl _) trivial
              refine ⟨?_, ?_⟩
              · rintro L a1 w1 hT - - ⟨h11, h33, -⟩   -- 4: Op.move t11
                have e11 : a1.tmps.getD 11 undef = _ := h11
                have f11 := getD_form e11
                have e33 : a1.tmps.getD 33 undef = _ := h33
                have f33 := getD_form e33
                clear h11 h33
                refine ⟨false, 33, by rfl, e33, ?_⟩; rw [if_pos rfl]
                go_simp; exact left_intro rfl (Stp.refl _) trivial
              refine ⟨?_, ?_⟩
              · rintro L a1 w1 hT - - ⟨h34, h35, h33, -⟩   -- 5: Op.binOp BinOp.neq 3 t34 t35 3
                have e34 : a1.tmps.getD 34 undef = _ := h34
                have f34 := getD_form e34
                have e35 : a1.tmps.getD 35 undef = _ := h35
                have f35 := getD_form e35
                have e33 : a1.tmps.getD 33 undef = _ := h33
                have f33 := getD_form e33
                clear h34 h35 h33
                refine ⟨false, 33, by rfl, e33, ?_⟩; rw [if_pos rfl]
                go_simp; exact left_intro rfl (Stp.refl _) trivial
              refine ⟨?_, ?_⟩
              · rintro L a1 w1 hT - - ⟨h33, h36, -⟩   -- 6: Op.pick t33 (const (Value.bool true)) t36
                have e33 : a1.tmps.getD 33 undef = _ := h33
                have f33 := getD_form e33
                have e36 : a1.tmps.getD 36 undef = _ := h36
                have f36 := getD_form e36
                clear h33 h36
                go_simp; exact left_intro rfl (Stp.refl _) trivial
              refine ⟨?_, ?_⟩
              · rintro L a1 w1 hT - - ⟨h37, -⟩   -- 7: Op.move t37
                have e37 : a1.tmps.getD 37 undef = _ := h37
                have f37 := getD_form e37
                clear h37
                go_simp; exact left_intro rfl (Stp.refl _) trivial
              refine ⟨?_, ?_⟩
              · rintro L a1 w1 hT - - ⟨h11, h38, -⟩   -- 8: Op.move t11
                have e11 : a1.tmps.getD 11 undef = _ := h11
                have f11 := getD_form e11
                have e38 : a1.tmps.getD 38 undef = _ := h38
                have f38 := getD_form e38
                clear h11 h38
                refine ⟨false, 38, by rfl, e38, ?_⟩; rw [if_pos rfl]
                go_simp; exact left_intro rfl (Stp.refl _) trivial
              refine ⟨?_, ?_⟩
              · rintro L a1 w1 hT - - ⟨h39, h38, -⟩   -- 9: Op.binOp BinOp.eql 3 t39 (const (0:i64)) 3
                have e39 : a1.tmps.getD 39 undef = _ := h39
                have f39 := getD_form e39
                have e38 : a1.tmps.getD 38 undef = _ := h38
                have f38 := getD_form e38
                clear h39 h38
                refine ⟨false, 38, by rfl, e38, ?_⟩; rw [if_pos rfl]
                go_simp; exact left_intro rfl (Stp.refl _) trivial
              refine ⟨?_, ?_⟩
              · rintro L a1 w1 hT - - ⟨h40, h38, -⟩   -- 10: Op.move t40
                have e40 : a1.tmps.getD 40 undef = _ := h40
                have f40 := getD_form e40
                have e38 : a1.tmps.getD 38 undef = _ := h38
                have f38 := getD_form e38
                clear h40 h38
                refine ⟨false, 38, by rfl, e38, ?_⟩; rw [if_pos rfl]
                go_simp; exact left_intro rfl (Stp.refl _) trivial
              refine ⟨?_, ?_⟩
              · rintro L a1 w1 hT - - ⟨h9, h41, -⟩   -- 11: Op.move t9
                have e9 : a1.tmps.getD 9 undef = _ := h9
                have f9 := getD_form e9
                have e41 : a1.tmps.getD 41 undef = _ := h41
                have f41 := getD_form e41
                clear h9 h41
                refine ⟨false, 41, by rfl, e41, ?_⟩; rw [if_neg (by decide)]
                exact left_intro rfl (Stp.refl _) trivial
              refine ⟨?_, ?_⟩
              · rintro L a1 w1 hT - - ⟨h41, -⟩   -- 12: Op.call { value (Operand.func 48), args := #[const (Value.bool true)], argTypes := #[4] }
                have e41 : a1.tmps.getD 41 undef = _ := h41
                have f41 := getD_form e41
                clear h41
                refine ⟨false, 41, by rfl, e41, ?_⟩; rw [if_neg (by decide)]
                exact left_intro rfl (Stp.refl _) trivial
              refine ⟨?_, ?_⟩
              · rintro L a1 w1 hT - - ⟨h4, h41, -⟩   -- 13: Op.load 65 t4
                have e4 : a1.tmps.getD 4 undef = _ := h4
                have f4 := getD_form e4
                have e41 : a1.tmps.getD 41 undef = _ := h41
                have f41 := getD_form e41
                clear h4 h41
                refine ⟨false, 41, by rfl, e41, ?_⟩; rw [if_neg (by decide)]
                exact left_intro rfl (Stp.refl _) trivial
              refine ⟨?_, ?_⟩
              · rintro L a1 w1 hT - - ⟨h44, h41, -⟩   -- 14: Op.call { value (Operand.func 46), args := #[t44], argTypes := #[65] }
                have e44 : a1.tmps.getD 44 undef = _ := h44
                have f44 := getD_form e44
                have e41 : a1.tmps.getD 41 undef = _ := h41
                have f41 := getD_form e41
                clear h44 h41
                refine ⟨false, 41, by rfl, e41, ?_⟩; rw [if_neg (by decide)]
                exact left_intro rfl (Stp.refl _) trivial
              refine ⟨?_, ?_⟩
              · rintro L a1 w1 hT - - ⟨h45, h41, -⟩   -- 15: Op.call { value (Operand.func 49), args := #[t45], argTypes := #[72] }
                have e45 : a1.tmps.getD 45 undef = _ := h45
                have f45 := getD_form e45
                have e41 : a1.tmps.getD 41 undef = _ := h41
                have f41 := getD_form e41
                clear h45 h41
                refine ⟨false, 41, by rfl, e41, ?_⟩; rw [if_neg (by decide)]
                exact left_intro rfl (Stp.refl _) trivial
              refine ⟨?_, ?_⟩
              · rintro L a1 w1 hT - - ⟨h43, h46, h41, -⟩   -- 16: Op.binOp BinOp.add 9 t43 t46 9
                have e43 : a1.tmps.getD 43 undef = _ := h43
                have f43 := getD_form e43
                have e46 : a1.tmps.getD 46 undef = _ := h46
                have f46 := getD_form e46
                have e41 : a1.tmps.getD 41 undef = _ := h41
                have f41 := getD_form e41
                clear h43 h46 h41
                refine ⟨false, 41, by rfl, e41, ?_⟩; rw [if_neg (by decide)]
                exact left_intro rfl (Stp.refl _) trivial
              refine ⟨?_, ?_⟩
              · rintro L a1 w1 hT - - ⟨h5, h41, -⟩   -- 17: Op.load 65 t5
                have e5 : a1.tmps.getD 5 undef = _ := h5
                have f5 := getD_form e5
                have e41 : a1.tmps.getD 41 undef = _ := h41
                have f41 := getD_form e41
                clear h5 h41
                refine ⟨false, 41, by rfl, e41, ?_⟩; rw [if_neg (by decide)]
                exact left_intro rfl (Stp.refl _) trivial
              refine ⟨?_, ?_⟩
              · rintro L a1 w1 hT - - ⟨h48, h41, -⟩   -- 18: Op.call { value (Operand.func 46), args := #[t48], argTypes := #[65] }
                have e48 : a1.tmps.getD 48 undef = _ := h48
                have f48 := getD_form e48
                have e41 : a1.tmps.getD 41 undef = _ := h41
                have f41 := getD_form e41
                clear h48 h41
                refine ⟨false, 41, by rfl, e41, ?_⟩; rw [if_neg (by decide)]
                exact left_intro rfl (Stp.refl _) trivial
              refine ⟨?_, ?_⟩
              · rintro L a1 w1 hT - - ⟨h49, h41, -⟩   -- 19: Op.call { value (Operand.func 49), args := #[t49], argTypes := #[72] }
                have e49 : a1.tmps.getD 49 undef = _ := h49
                have f49 := getD_form e49
                have e41 : a1.tmps.getD 41 undef = _ := h41
                have f41 := getD_form e41
                clear h49 h41
                refine ⟨false, 41, by rfl, e41, ?_⟩; rw [if_neg (by decide)]
                exact left_intro rfl (Stp.refl _) trivial
              refine ⟨?_, ?_⟩
              · rintro L a1 w1 hT - - ⟨h47, h50, h41, -⟩   -- 20: Op.binOp BinOp.add 9 t47 t50 9
                have e47 : a1.tmps.getD 47 undef = _ := h47
                have f47 := getD_form e47
                have e50 : a1.tmps.getD 50 undef = _ := h50
                have f50 := getD_form e50
                have e41 : a1.tmps.getD 41 undef = _ := h41
                have f41 := getD_form e41
                clear h47 h50 h41
                refine ⟨false, 41, by rfl, e41, ?_⟩; rw [if_neg (by decide)]
                exact left_intro rfl (Stp.refl _) trivial
              refine ⟨?_, ?_⟩
              · rintro L a1 w1 hT - - ⟨h42, h51, h41, -⟩   -- 21: Op.binOp BinOp.neq 9 t42 t51 9
                have e42 : a1.tmps.getD 42 undef = _ := h42
                have f42 := getD_form e42
                have e51 : a1.tmps.getD 51 undef = _ := h51
                have f51 := getD_form e51
                have e41 : a1.tmps.getD 41 undef = _ := h41
                have f41 := getD_form e41
                clear h42 h51 h41
                refine ⟨false, 41, by rfl, e41, ?_⟩; rw [if_neg (by decide)]
                exact left_intro rfl (Stp.refl _) trivial
              refine ⟨?_, ?_⟩
              · rintro L a1 w1 hT - - ⟨h41, h52, h38, -⟩   -- 22: Op.pick t41 t52 (const (Value.bool false))
                have e41 : a1.tmps.getD 41 undef = _ := h41
                have f41 := getD_form e41
                have e52 : a1.tmps.getD 52 undef = _ := h52
                have f52 := getD_form e52
                have e38 : a1.tmps.getD 38 undef = _ := h38
                have f38 := getD_form e38
                clear h41 h52 h38
                refine ⟨false, 38, by rfl, e38, ?_⟩; rw [if_pos rfl]
                go_simp; exact left_intro rfl (Stp.refl _) trivial
              refine ⟨?_, ?_⟩
              · rintro L a1 w1 hT - - ⟨h38, h53, -⟩   -- 23: Op.pick t38 (const (Value.bool true)) t53
                have e38 : a1.tmps.getD 38 undef = _ := h38
                have f38 := getD_form e38
                have e53 : a1.tmps.getD 53 undef = _ := h53
                have f53 := getD_form e53
                clear h38 h53
                go_simp; exact left_intro rfl (Stp.refl _) trivial
              refine ⟨?_, ?_⟩
              · rintro L a1 w1 hT - - ⟨h54, -⟩   -- 24: Op.move t54
                have e54 : a1.tmps.getD 54 undef = _ := h54
                have f54 := getD_form e54
                clear h54
                go_simp; exact left_intro rfl (Stp.refl _) trivial
              refine ⟨?_, ?_⟩
              · rintro L a1 w1 hT - - ⟨h11, h55, -⟩   -- 25: Op.move t11
                have e11 : a1.tmps.getD 11 undef = _ := h11
                have f11 := getD_form e11
                have e55 : a1.tmps.getD 55 undef = _ := h55
                have f55 := getD_form e55
                clear h11 h55
                refine ⟨false, 55, by rfl, e55, ?_⟩; rw [if_pos rfl]
                go_simp; exact left_intro rfl (Stp.refl _) trivial
              refine ⟨?_, ?_⟩
              · rintro L a1 w1 hT - - ⟨h56, h55, -⟩   -- 26: Op.binOp BinOp.neq 3 t56 (const (0:i64)) 3
                have e56 : a1.tmps.getD 56 undef = _ := h56
                have f56 := getD_form e56
                have e55 : a1.tmps.getD 55 undef = _ := h55
                have f55 := getD_form e55
                clear h56 h55
                refine ⟨false, 55, by rfl, e55, ?_⟩; rw [if_pos rfl]
                go_simp; exact left_intro rfl (Stp.refl _) trivial
              refine ⟨?_, ?_⟩
              · rintro L a1 w1 hT - - ⟨h57, h55, -⟩   -- 27: Op.move t57
                have e57 : a1.tmps.getD 57 undef = _ := h57
                have f57 := getD_form e57
                have e55 : a1.tmps.getD 55 undef = _ := h55
                have f55 := getD_form e55
                clear h57 h55
                refine ⟨false, 55, by rfl, e55, ?_⟩; rw [if_pos rfl]
                go_simp; exact left_intro rfl (Stp.refl _) trivial
              refine ⟨?_, ?_⟩
              · rintro L a1 w1 hT - - ⟨h9, h58, -⟩   -- 28: Op.move t9
                have e9 : a1.tmps.getD 9 undef = _ := h9
                have f9 := getD_form e9
                have e58 : a1.tmps.getD 58 undef = _ := h58
                have f58 := getD_form e58
                clear h9 h58
                refine ⟨true, 58, by rfl, e58, ?_⟩; rw [if_pos rfl]
                go_simp; exact left_intro rfl (Stp.refl _) trivial
              refine ⟨?_, ?_⟩
              · rintro L a1 w1 hT - - ⟨h59, h58, -⟩   -- 29: Op.binOp BinOp.neq 9 t59 (const (Value.string { data := #[] })) 9
                have e59 : a1.tmps.getD 59 undef = _ := h59
                have f59 := getD_form e59
                have e58 : a1.tmps.getD 58 undef = _ := h58
                have f58 := getD_form e58
                clear h59 h58
                refine ⟨true, 58, by rfl, e58, ?_⟩; rw [if_pos rfl]
                go_simp; exact left_intro rfl (Stp.refl _) trivial
              refine ⟨?_, ?_⟩
              · rintro L a1 w1 hT - - ⟨h58, h60, h55, -⟩   -- 30: Op.pick t58 t60 (const (Value.bool false))
                have e58 : a1.tmps.getD 58 undef = _ := h58
                have f58 := getD_form e58
                have e60 : a1.tmps.getD 60 undef = _ := h60
                have f60 := getD_form e60
                have e55 : a1.tmps.getD 55 undef = _ := h55
                have f55 := getD_form e55
                clear h58 h60 h55
                refine ⟨false, 55, by rfl, e55, ?_⟩; rw [if_pos rfl]
                go_simp; exact left_intro rfl (Stp.refl _) trivial
              refine ⟨?_, ?_⟩
              · rintro L a1 w1 hT - - ⟨h55, h61, -⟩   -- 31: Op.pick t55 (const (Value.bool true)) t61
                have e55 : a1.tmps.getD 55 undef = _ := h55
                have f55 := getD_form e55
                have e61 : a1.tmps.getD 61 undef = _ := h61
                have f61 := getD_form e61
                clear h55 h61
                go_simp; exact left_intro rfl (Stp.refl _) trivial
              trivial
            case hmono => repeat (first | exact trivial | refine ⟨fun _ _ _ _ h => h, ?_⟩)
            case hend =>
              intro w2 hT
              rintro _ rfl _ rfl _ rfl _ rfl _ rfl _ rfl _ rfl _ rfl _ rfl _ rfl _ rfl _ rfl _ rfl _ rfl _ rfl _ rfl _ rfl _ rfl _ rfl _ rfl _ rfl _ rfl _ rfl _ rfl _ rfl _ rfl _ rfl _ rfl _ rfl _ rfl _ rfl _ rfl
              simp only [relEnd, Act.put, List.setIfInBounds_toArray, List.set_cons_succ, List.set_cons_zero]
              replace B0 := B0.at_ hT
              replace B1 := B1.at_ hT
              replace B2 := B2.at_ hT
              replace hB := hB.trans (Below.mono hT hB.size)
              clear hT
              have k64 := B0.cellv h64
              go_wp2
              go_ret
              exact ⟨rfl, hB⟩
        · have d2 : decide (1073741824 < i) = false := by simp; omega
          have d2' : decide (i > 1073741824) = false := by simp; omega
          obtain ⟨k, rfl⟩ : ∃ k : Nat, i = k := ⟨i.toNat, by omega⟩
          have hE : D.leafE k = 0 := by unfold D.leafE; rw [if_pos (by omega)]
          have hO : D.leafO l v (k : Int) = D.leafW l v k := by unfold D.leafO; rw [if_pos hE]; rfl
          rw [hO, hE] at BL
          have LT := Lib.hid (fun W => rleafW_any l v k (by omega) hl hv W)
          have hlw : (D.leafW l v k == D.leafW l v k) = true := beq_self_eq_true _
          generalize D.leafW l v k = lw at *
          clear hO hE
          go_enter Try.func13, Try.ntmps13
          go_wp2_with (first | (refine wpList_load_blk (by rfl) 61 (.tmp 3) (by rfl) 0 (by rfl) (B0) ((leafC l v _).toArray) whole_at _ Try.underlying61 (by rfl) hz0' ?_; simp only [Act.put, List.setIfInBounds_toArray, List.set_cons_succ, List.set_cons_zero]) | (refine wpList_load_blk (by rfl) 65 (.tmp 4) (by rfl) 0 (by rfl) (B1) ((itemC _ p0 s0 _).toArray) whole_at _ Try.underlying65 (by rfl) hz1' ?_; simp only [Act.put, List.setIfInBounds_toArray, List.set_cons_succ, List.set_cons_zero]) | (refine wpList_load_blk (by rfl) 65 (.tmp 5) (by rfl) 0 (by rfl) (B2) ((itemC _ p1 s1 _).toArray) whole_at _ Try.underlying65 (by rfl) hz2' ?_; simp only [Act.put, List.setIfInBounds_toArray, List.set_cons_succ, List.set_cons_zero]) | (refine wpList_build (by rfl) 69 ([(0, .tmp 19), (1, .tmp 20)]) (by rfl) ([(0, .agg (itemC _ p0 s0 _).toArray), (1, .agg (itemC _ p1 s1 _).toArray)]) (by rfl) (.agg (innerC _ p0 s0 _ _ p1 s1 _).toArray) (hbd) ?_; simp only [Act.put, List.setIfInBounds_toArray, List.set_cons_succ, List.set_cons_zero]) | (go_at_call 44; first | ((with_reducible refine (BL.out _).mono ?_); rintro e w1 ⟨rfl, h1⟩; replace B0 := B0.at_ h1; replace B1 := B1.at_ h1; replace B2 := B2.at_ h1; replace hB := hB.trans (h1.mono hB.size); clear h1) | ((with_reducible refine (BI.out _).mono ?_); rintro e w1 ⟨rfl, h1⟩; replace B0 := B0.at_ h1; replace B1 := B1.at_ h1; replace B2 := B2.at_ h1; replace hB := hB.trans (h1.mono hB.size); clear h1)))
          apply wp_region_rel_below [[(4, none)], [(26, some 0)], [(5, none)], [(28, some 2)], [(27, some 1), (29, some 3)], [(30, some 4)]] [eqv _, eqv _, eqv _, eqv _, eqv _, eqv _] (by kernel_rfl) (by kernel_rfl)
          case hobs =>
            refine ⟨?_, ?_⟩
            · rintro L a1 w1 hT - - ⟨h4, -⟩   -- 0: Op.load 65 t4
              have e4 : a1.tmps.getD 4 undef = _ := h4
              have f4 := getD_form e4
              clear h4
              exact wp_load_blkL 65 (.tmp 4) rfl _ e4 (cs := itemC _ p0 s0 _) B1 hT _ Try.underlying65 (by rfl) hz1 (left_intro rfl (Stp.refl _) trivial)
            refine ⟨?_, ?_⟩
            · rintro L a1 w1 hT - - ⟨h26, -⟩   -- 1: Op.call { value (Operand.func 46), args := #[t26], argTypes := #[65] }
              have e26 : a1.tmps.getD 26 undef = _ := h26
              have f26 := getD_form e26
              clear h26
              go_simp; go_at_call 46; (with_reducible refine (T0.out _).mono ?_); rintro e w2 ⟨rfl, hb⟩; exact left_intro rfl (Stp.of hb) trivial
            refine ⟨?_, ?_⟩
            · rintro L a1 w1 hT - - ⟨h5, -⟩   -- 2: Op.load 65 t5
              have e5 : a1.tmps.getD 5 undef = _ := h5
              have f5 := getD_form e5
              clear h5
              exact wp_load_blkL 65 (.tmp 5) rfl _ e5 (cs := itemC _ p1 s1 _) B2 hT _ Try.underlying65 (by rfl) hz2 (left_intro rfl (Stp.refl _) trivial)
            refine ⟨?_, ?_⟩
            · rintro L a1 w1 hT - - ⟨h28, -⟩   -- 3: Op.call { value (Operand.func 46), args := #[t28], argTypes := #[65] }
              have e28 : a1.tmps.getD 28 undef = _ := h28
              have f28 := getD_form e28
              clear h28
              go_simp; go_at_call 46; (with_reducible refine (T1.out _).mono ?_); rintro e w2 ⟨rfl, hb⟩; exact left_intro rfl (Stp.of hb) trivial
            refine ⟨?_, ?_⟩
            · rintro L a1 w1 hT - - ⟨h27, h29, -⟩   -- 4: Op.call { value (Operand.func 45), args := #[t27, t29], argTypes := #[72, 72] }
              have e27 : a1.tmps.getD 27 undef = _ := h27
              have f27 := getD_form e27
              have e29 : a1.tmps.getD 29 undef = _ := h29
              have f29 := getD_form e29
              clear h27 h29
              go_simp; go_at_call 45; (with_reducible refine (CK.out _).mono ?_); rintro e w2 ⟨rfl, hb⟩; exact left_intro rfl (Stp.of hb) trivial
            refine ⟨?_, ?_⟩
            · rintro L a1 w1 hT - - ⟨h30, -⟩   -- 5: Op.assign t30
              have e30 : a1.tmps.getD 30 undef = _ := h30
              have f30 := getD_form e30
              clear h30
              go_simp; exact left_intro rfl (Stp.refl _) trivial
            trivial
          case hmono => repeat (first | exact trivial | refine ⟨fun _ _ _ _ h => h, ?_⟩)
          case hend =>
            intro w2 hT
            rintro _ rfl _ rfl _ rfl _ rfl _ rfl _ rfl
            simp only [relEnd, Act.put, List.setIfInBounds_toArray, List.set_cons_succ, List.set_cons_zero]
            replace B0 := B0.at_ hT
            replace B1 := B1.at_ hT
            replace B2 := B2.at_ hT
            replace hB := hB.trans (Below.mono hT hB.size)
            clear hT
            have k64 := B0.cellv h64
            go_wp2
            apply wp_region_rel_below [[], [(31, some 0)], [(32, some 1)], [(10, none), (33, some 2)], [(11, none), (33, some 2)], [(34, some 3), (35, some 4), (33, some 2)], [(33, some 2), (36, some 5)], [(37, some 6)], [(11, none), (38, some 7)], [(39, some 8), (38, some 7)], [(40, some 9), (38, some 7)], [(9, none), (41, some 10)], [(41, some 10)], [(4, none), (41, some 10)], [(44, some 13), (41, some 10)], [(45, some 14), (41, some 10)], [(43, some 12), (46, some 15), (41, some 10)], [(5, none), (41, some 10)], [(48, some 17), (41, some 10)], [(49, some 18), (41, some 10)], [(47, some 16), (50, some 19), (41, some 10)], [(42, some 11), (51, some 20), (41, some 10)], [(41, some 10), (52, some 21), (38, some 7)], [(38, some 7), (53, some 22)], [(54, some 23)], [(11, none), (55, some 24)], [(56, some 25), (55, some 24)], [(57, some 26), (55, some 24)], [(9, none), (58, some 27)], [(59, some 28), (58, some 27)], [(58, some 27), (60, some 29), (55, some 24)], [(55, some 24), (61, some 30)]] [eqv _, eqv _, eqv _, eqv _, eqv _, eqv _, eqv _, eqv _, eqv _, eqv _, eqv _, eqv _, eqv _, eqv _, eqv _, eqv _, eqv _, eqv _, eqv _, eqv _, eqv _, eqv _, eqv _, eqv _, eqv _, eqv _, eqv _, eqv _, eqv _, eqv _, eqv _, eqv _] (by kernel_rfl) (by kernel_rfl)
            case hobs =>
              refine ⟨?_, ?_⟩
              · rintro L a1 w1 hT - - -   -- 0: Op.call { value (Operand.func 47), args := #[], argTypes := #[] }
                go_simp; go_at_call 47; (with_reducible refine (AA.out _).mono ?_); rintro e w2 ⟨rfl, hb⟩; exact left_intro rfl (Stp.of hb) trivial
              refine ⟨?_, ?_⟩
              · rintro L a1 w1 hT - - ⟨h31, -⟩   -- 1: Op.unOp UnOp.not 4 t31
                have e31 : a1.tmps.getD 31 undef = _ := h31
                have f31 := getD_form e31
                clear h31
                go_simp; exact left_intro rfl (Stp.refl _) trivial
              refine ⟨?_, ?_⟩
              · rintro L a1 w1 hT - - ⟨h32, -⟩   -- 2: Op.move t32
                have e32 : a1.tmps.getD 32 undef = _ := h32
                have f32 := getD_form e32
                clear h32
                go_simp; exact left_intro rfl (Stp.refl _) trivial
              refine ⟨?_, ?_⟩
              · rintro L a1 w1 hT - - ⟨h10, h33, -⟩   -- 3: Op.move t10
                have e10 : a1.tmps.getD 10 undef = _ := h10
                have f10 := getD_form e10
                have e33 : a1.tmps.getD 33 undef = _ := h33
                have f33 := getD_form e33
                clear h10 h33
                refine ⟨false, 33, by rfl, e33, ?_⟩; rw [if_pos rfl]
                go_simp; exact left_intro rfl (Stp.refl _) trivial
              refine ⟨?_, ?_⟩
              · rintro L a1 w1 hT - - ⟨h11, h33, -⟩   -- 4: Op.move t11
                have e11 : a1.tmps.getD 11 undef = _ := h11
                have f11 := getD_form e11
                have e33 : a1.tmps.getD 33 undef = _ := h33
                have f33 := getD_form e33
                clear h11 h33
                refine ⟨false, 33, by rfl, e33, ?_⟩; rw [if_pos rfl]
                go_simp; exact left_intro rfl (Stp.refl _) trivial
              refine ⟨?_, ?_⟩
              · rintro L a1 w1 hT - - ⟨h34, h35, h33, -⟩   -- 5: Op.binOp BinOp.neq 3 t34 t35 3
                have e34 : a1.tmps.getD 34 undef = _ := h34
                have f34 := getD_form e34
                have e35 : a1.tmps.getD 35 undef = _ := h35
                have f35 := getD_form e35
                have e33 : a1.tmps.getD 33 undef = _ := h33
                have f33 := getD_form e33
                clear h34 h35 h33
                refine ⟨false, 33, by rfl, e33, ?_⟩; rw [if_pos rfl]
                go_simp; exact left_intro rfl (Stp.refl _) trivial
              refine ⟨?_, ?_⟩
              · rintro L a1 w1 hT - - ⟨h33, h36, -⟩   -- 6: Op.pick t33 (const (Value.bool true)) t36
                have e33 : a1.tmps.getD 33 undef = _ := h33
                have f33 := getD_form e33
                have e36 : a1.tmps.getD 36 undef = _ := h36
                have f36 := getD_form e36
                clear h33 h36
                go_simp; exact left_intro rfl (Stp.refl _) trivial
              refine ⟨?_, ?_⟩
              · rintro L a1 w1 hT - - ⟨h37, -⟩   -- 7: Op.move t37
                have e37 : a1.tmps.getD 37 undef = _ := h37
                have f37 := getD_form e37
                clear h37
                go_simp; exact left_intro rfl (Stp.refl _) trivial
              refine ⟨?_, ?_⟩
              · rintro L a1 w1 hT - - ⟨h11, h38, -⟩   -- 8: Op.move t11
                have e11 : a1.tmps.getD 11 undef = _ := h11
                have f11 := getD_form e11
                have e38 : a1.tmps.getD 38 undef = _ := h38
                have f38 := getD_form e38
                clear h11 h38
                refine ⟨false, 38, by rfl, e38, ?_⟩; rw [if_pos rfl]
                go_simp; exact left_intro rfl (Stp.refl _) trivial
              refine ⟨?_, ?_⟩
              · rintro L a1 w1 hT - - ⟨h39, h38, -⟩   -- 9: Op.binOp BinOp.eql 3 t39 (const (0:i64)) 3
                have e39 : a1.tmps.getD 39 undef = _ := h39
                have f39 := getD_form e39
                have e38 : a1.tmps.getD 38 undef = _ := h38
                have f38 := getD_form e38
                clear h39 h38
                refine ⟨false, 38, by rfl, e38, ?_⟩; rw [if_pos rfl]
                go_simp; exact left_intro rfl (Stp.refl _) trivial
              refine ⟨?_, ?_⟩
              · rintro L a1 w1 hT - - ⟨h40, h38, -⟩   -- 10: Op.move t40
                have e40 : a1.tmps.getD 40 undef = _ := h40
                have f40 := getD_form e40
                have e38 : a1.tmps.getD 38 undef = _ := h38
                have f38 := getD_form e38
                clear h40 h38
                refine ⟨false, 38, by rfl, e38, ?_⟩; rw [if_pos rfl]
                go_simp; exact left_intro rfl (Stp.refl _) trivial
              refine ⟨?_, ?_⟩
              · rintro L a1 w1 hT - - ⟨h9, h41, -⟩   -- 11: Op.move t9
                have e9 : a1.tmps.getD 9 undef = _ := h9
                have f9 := getD_form e9
                have e41 : a1.tmps.getD 41 undef = _ := h41
                have f41 := getD_form e41
                clear h9 h41
                refine ⟨false, 41, by rfl, e41, ?_⟩; rw [if_neg (by decide)]
                exact left_intro rfl (Stp.refl _) trivial
              refine ⟨?_, ?_⟩
              · rintro L a1 w1 hT - - ⟨h41, -⟩   -- 12: Op.call { value (Operand.func 48), args := #[const (Value.bool true)], argTypes := #[4] }
                have e41 : a1.tmps.getD 41 undef = _ := h41
                have f41 := getD_form e41
                clear h41
                refine ⟨false, 41, by rfl, e41, ?_⟩; rw [if_neg (by decide)]
                exact left_intro rfl (Stp.refl _) trivial
              refine ⟨?_, ?_⟩
              · rintro L a1 w1 hT - - ⟨h4, h41, -⟩   -- 13: Op.load 65 t4
                have e4 : a1.tmps.getD 4 undef = _ := h4
                have f4 := getD_form e4
                have e41 : a1.tmps.getD 41 undef = _ := h41
                have f41 := getD_form e41
                clear h4 h41
                refine ⟨false, 41, by rfl, e41, ?_⟩; rw [if_neg (by decide)]
                exact left_intro rfl (Stp.refl _) trivial
              refine ⟨?_, ?_⟩
              · rintro L a1 w1 hT - - ⟨h44, h41, -⟩   -- 14: Op.call { value (Operand.func 46), args := #[t44], argTypes := #[65] }
                have e44 : a1.tmps.getD 44 undef = _ := h44
                have f44 := getD_form e44
                have e41 : a1.tmps.getD 41 undef = _ := h41
                have f41 := getD_form e41
                clear h44 h41
                refine ⟨false, 41, by rfl, e41, ?_⟩; rw [if_neg (by decide)]
                exact left_intro rfl (Stp.refl _) trivial
              refine ⟨?_, ?_⟩
              · rintro L a1 w1 hT - - ⟨h45, h41, -⟩   -- 15: Op.call { value (Operand.func 49), args := #[t45], argTypes := #[72] }
                have e45 : a1.tmps.getD 45 undef = _ := h45
                have f45 := getD_form e45
                have e41 : a1.tmps.getD 41 undef = _ := h41
                have f41 := getD_form e41
                clear h45 h41
                refine ⟨false, 41, by rfl, e41, ?_⟩; rw [if_neg (by decide)]
                exact left_intro rfl (Stp.refl _) trivial
              refine ⟨?_, ?_⟩
              · rintro L a1 w1 hT - - ⟨h43, h46, h41, -⟩   -- 16: Op.binOp BinOp.add 9 t43 t46 9
                have e43 : a1.tmps.getD 43 undef = _ := h43
                have f43 := getD_form e43
                have e46 : a1.tmps.getD 46 undef = _ := h46
                have f46 := getD_form e46
                have e41 : a1.tmps.getD 41 undef = _ := h41
                have f41 := getD_form e41
                clear h43 h46 h41
                refine ⟨false, 41, by rfl, e41, ?_⟩; rw [if_neg (by decide)]
                exact left_intro rfl (Stp.refl _) trivial
              refine ⟨?_, ?_⟩
              · rintro L a1 w1 hT - - ⟨h5, h41, -⟩   -- 17: Op.load 65 t5
                have e5 : a1.tmps.getD 5 undef = _ := h5
                have f5 := getD_form e5
                have e41 : a1.tmps.getD 41 undef = _ := h41
                have f41 := getD_form e41
                clear h5 h41
                refine ⟨false, 41, by rfl, e41, ?_⟩; rw [if_neg (by decide)]
                exact left_intro rfl (Stp.refl _) trivial
              refine ⟨?_, ?_⟩
              · rintro L a1 w1 hT - - ⟨h48, h41, -⟩   -- 18: Op.call { value (Operand.func 46), args := #[t48], argTypes := #[65] }
                have e48 : a1.tmps.getD 48 undef = _ := h48
                have f48 := getD_form e48
                have e41 : a1.tmps.getD 41 undef = _ := h41
                have f41 := getD_form e41
                clear h48 h41
                refine ⟨false, 41, by rfl, e41, ?_⟩; rw [if_neg (by decide)]
                exact left_intro rfl (Stp.refl _) trivial
              refine ⟨?_, ?_⟩
              · rintro L a1 w1 hT - - ⟨h49, h41, -⟩   -- 19: Op.call { value (Operand.func 49), args := #[t49], argTypes := #[72] }
                have e49 : a1.tmps.getD 49 undef = _ := h49
                have f49 := getD_form e49
                have e41 : a1.tmps.getD 41 undef = _ := h41
                have f41 := getD_form e41
                clear h49 h41
                refine ⟨false, 41, by rfl, e41, ?_⟩; rw [if_neg (by decide)]
                exact left_intro rfl (Stp.refl _) trivial
              refine ⟨?_, ?_⟩
              · rintro L a1 w1 hT - - ⟨h47, h50, h41, -⟩   -- 20: Op.binOp BinOp.add 9 t47 t50 9
                have e47 : a1.tmps.getD 47 undef = _ := h47
                have f47 := getD_form e47
                have e50 : a1.tmps.getD 50 undef = _ := h50
                have f50 := getD_form e50
                have e41 : a1.tmps.getD 41 undef = _ := h41
                have f41 := getD_form e41
                clear h47 h50 h41
                refine ⟨false, 41, by rfl, e41, ?_⟩; rw [if_neg (by decide)]
                exact left_intro rfl (Stp.refl _) trivial
              refine ⟨?_, ?_⟩
              · rintro L a1 w1 hT - - ⟨h42, h51, h41, -⟩   -- 21: Op.binOp BinOp.neq 9 t42 t51 9
                have e42 : a1.tmps.getD 42 undef = _ := h42
                have f42 := getD_form e42
                have e51 : a1.tmps.getD 51 undef = _ := h51
                have f51 := getD_form e51
                have e41 : a1.tmps.getD 41 undef = _ := h41
                have f41 := getD_form e41
                clear h42 h51 h41
                refine ⟨false, 41, by rfl, e41, ?_⟩; rw [if_neg (by decide)]
                exact left_intro rfl (Stp.refl _) trivial
              refine ⟨?_, ?_⟩
              · rintro L a1 w1 hT - - ⟨h41, h52, h38, -⟩   -- 22: Op.pick t41 t52 (const (Value.bool false))
                have e41 : a1.tmps.getD 41 undef = _ := h41
                have f41 := getD_form e41
                have e52 : a1.tmps.getD 52 undef = _ := h52
                have f52 := getD_form e52
                have e38 : a1.tmps.getD 38 undef = _ := h38
                have f38 := getD_form e38
                clear h41 h52 h38
                refine ⟨false, 38, by rfl, e38, ?_⟩; rw [if_pos rfl]
                go_simp; exact left_intro rfl (Stp.refl _) trivial
              refine ⟨?_, ?_⟩
              · rintro L a1 w1 hT - - ⟨h38, h53, -⟩   -- 23: Op.pick t38 (const (Value.bool true)) t53
                have e38 : a1.tmps.getD 38 undef = _ := h38
                have f38 := getD_form e38
                have e53 : a1.tmps.getD 53 undef = _ := h53
                have f53 := getD_form e53
                clear h38 h53
                go_simp; exact left_intro rfl (Stp.refl _) trivial
              refine ⟨?_, ?_⟩
              · rintro L a1 w1 hT - - ⟨h54, -⟩   -- 24: Op.move t54
                have e54 : a1.tmps.getD 54 undef = _ := h54
                have f54 := getD_form e54
                clear h54
                go_simp; exact left_intro rfl (Stp.refl _) trivial
              refine ⟨?_, ?_⟩
              · rintro L a1 w1 hT - - ⟨h11, h55, -⟩   -- 25: Op.move t11
                have e11 : a1.tmps.getD 11 undef = _ := h11
                have f11 := getD_form e11
                have e55 : a1.tmps.getD 55 undef = _ := h55
                have f55 := getD_form e55
                clear h11 h55
                refine ⟨false, 55, by rfl, e55, ?_⟩; rw [if_pos rfl]
                go_simp; exact left_intro rfl (Stp.refl _) trivial
              refine ⟨?_, ?_⟩
              · rintro L a1 w1 hT - - ⟨h56, h55, -⟩   -- 26: Op.binOp BinOp.neq 3 t56 (const (0:i64)) 3
                have e56 : a1.tmps.getD 56 undef = _ := h56
                have f56 := getD_form e56
                have e55 : a1.tmps.getD 55 undef = _ := h55
                have f55 := getD_form e55
                clear h56 h55
                refine ⟨false, 55, by rfl, e55, ?_⟩; rw [if_pos rfl]
                go_simp; exact left_intro rfl (Stp.refl _) trivial
              refine ⟨?_, ?_⟩
              · rintro L a1 w1 hT - - ⟨h57, h55, -⟩   -- 27: Op.move t57
                have e57 : a1.tmps.getD 57 undef = _ := h57
                have f57 := getD_form e57
                have e55 : a1.tmps.getD 55 undef = _ := h55
                have f55 := getD_form e55
                clear h57 h55
                refine ⟨false, 55, by rfl, e55, ?_⟩; rw [if_pos rfl]
                go_simp; exact left_intro rfl (Stp.refl _) trivial
              refine ⟨?_, ?_⟩
              · rintro L a1 w1 hT - - ⟨h9, h58, -⟩   -- 28: Op.move t9
                have e9 : a1.tmps.getD 9 undef = _ := h9
                have f9 := getD_form e9
                have e58 : a1.tmps.getD 58 undef = _ := h58
                have f58 := getD_form e58
                clear h9 h58
                refine ⟨true, 58, by rfl, e58, ?_⟩; rw [if_pos rfl]
                go_simp; exact left_intro rfl (Stp.refl _) trivial
              refine ⟨?_, ?_⟩
              · rintro L a1 w1 hT - - ⟨h59, h58, -⟩   -- 29: Op.binOp BinOp.neq 9 t59 (const (Value.string { data := #[] })) 9
                have e59 : a1.tmps.getD 59 undef = _ := h59
                have f59 := getD_form e59
                have e58 : a1.tmps.getD 58 undef = _ := h58
                have f58 := getD_form e58
                clear h59 h58
                refine ⟨true, 58, by rfl, e58, ?_⟩; rw [if_pos rfl]
                go_simp; exact left_intro rfl (Stp.refl _) trivial
              refine ⟨?_, ?_⟩
              · rintro L a1 w1 hT - - ⟨h58, h60, h55, -⟩   -- 30: Op.pick t58 t60 (const (Value.bool false))
                have e58 : a1.tmps.getD 58 undef = _ := h58
                have f58 := getD_form e58
                have e60 : a1.tmps.getD 60 undef = _ := h60
                have f60 := getD_form e60
                have e55 : a1.tmps.getD 55 undef = _ := h55
                have f55 := getD_form e55
                clear h58 h60 h55
                refine ⟨false, 55, by rfl, e55, ?_⟩; rw [if_pos rfl]
                go_simp; exact left_intro rfl (Stp.refl _) trivial
              refine ⟨?_, ?_⟩
              · rintro L a1 w1 hT - - ⟨h55, h61, -⟩   -- 31: Op.pick t55 (const (Value.bool true)) t61
                have e55 : a1.tmps.getD 55 undef = _ := h55
                have f55 := getD_form e55
                have e61 : a1.tmps.getD 61 undef = _ := h61
                have f61 := getD_form e61
                clear h55 h61
                go_simp; exact left_intro rfl (Stp.refl _) trivial
              trivial
            case hmono => repeat (first | exact trivial | refine ⟨fun _ _ _ _ h => h, ?_⟩)
            case hend =>
              intro w2 hT
              rintro _ rfl _ rfl _ rfl _ rfl _ rfl _ rfl _ rfl _ rfl _ rfl _ rfl _ rfl _ rfl _ rfl _ rfl _ rfl _ rfl _ rfl _ rfl _ rfl _ rfl _ rfl _ rfl _ rfl _ rfl _ rfl _ rfl _ rfl _ rfl _ rfl _ rfl _ rfl _ rfl
              simp only [relEnd, Act.put, List.setIfInBounds_toArray, List.set_cons_succ, List.set_cons_zero]
              replace B0 := B0.at_ hT
              replace B1 := B1.at_ hT
              replace B2 := B2.at_ hT
              replace hB := hB.trans (Below.mono hT hB.size)
              clear hT
              have k64 := B0.cellv h64
              go_wp2_with (first | ((refine wpList_load_blk (by rfl) 61 (.tmp 3) (by rfl) 0 (by rfl) (B0) ((leafC l v _).toArray) whole_at _ Try.underlying61 (by rfl) hz0' ?_; simp only [Act.put, List.setIfInBounds_toArray, List.set_cons_succ, List.set_cons_zero])) | ((go_at_call 50; (with_reducible refine (LT.out _).mono ?_)); rintro e w1 ⟨rfl, h1⟩; replace B0 := B0.at_ h1; replace B1 := B1.at_ h1; replace B2 := B2.at_ h1; replace hB := hB.trans (h1.mono hB.size); clear h1))
              go_ret
              exact ⟨rfl, hB⟩
end Go.Proofs.Ytgjmnhbkdccgpaa

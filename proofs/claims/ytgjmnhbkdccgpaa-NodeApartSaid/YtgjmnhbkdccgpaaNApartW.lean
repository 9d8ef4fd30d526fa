/- The walk of NodeApart. -/
import Derived.Test.YtgjmnhbkdccgpaaOpenN
import Derived.Test.YtgjmnhbkdccgpaaPureBack
namespace Go.Proofs.Ytgjmnhbkdccgpaa
open Go.RowKit

/-- A whole block, as one step. -/
theorem wp_load_blkL {o : Oper} {a : Act} {w w1 : World} {Q : Exit → Act → World → Prop} {K : Act → World → Prop} (ty : TypeId) (x : Operand) (ho : o.op = .load ty x) (g : Nat) (hx : a.eval x = .pointer (some ⟨g, 0, none⟩)) {cs : List Value} {t : TypeId}
    (b : Blk w g cs.toArray t) (hT : Stp w.drew w1) (d : TypeDesc) (hu : Try.prog.underlying ty = some d) (hd : d.isRow = true) (hi : (Try.prog.info? ty).map (·.size) = some cs.length)
    (hk : K (a.put o.dst (.agg cs.toArray)) w1) : o.wp Try.prog a w1 K Q :=
  wp_load_mid ty x ho g 0 hx cs d (blk_rangeL (o := 0) (b.drew.at_ hT) (fun j u h => by rw [Nat.zero_add]; exact h)) hu hd hi hk
theorem u64_inj {n t : Int} (hn : (Lit.int .i64 n).wf = true) (ht : (Lit.int .i64 t).wf = true) (h : D.u64 n = D.u64 t) : n = t := by
  have hn := bounds_i64 hn
  have ht := bounds_i64 ht
  unfold D.u64 at h
  omega
theorem eight_inj {n t : Int} (hn : (Lit.int .i64 n).wf = true) (ht : (Lit.int .i64 t).wf = true) (h : D.eight n = D.eight t) : n = t := by
  have h2 := congrArg D.num h
  unfold D.eight at h2
  rw [D.num_bek, D.num_bek, Nat.mod_eq_of_lt (D.u64_lt n), Nat.mod_eq_of_lt (D.u64_lt t)] at h2
  exact u64_inj hn ht h2
theorem leafT_eq {l v : List UInt8} {t : Int} {l' v' : List UInt8} {t' : Int} (hl : l.length = 32) (hv : v.length = 32) (ht : (Lit.int .i64 t).wf = true) (hl' : l'.length = 32) (hv' : v'.length = 32) (ht' : (Lit.int .i64 t').wf = true) :
    (D.leafT l v t == D.leafT l' v' t') = D.eqLeaf l v t l' v' t' := by
  rw [Bool.eq_iff_iff, beq_iff_eq]
  unfold D.leafT D.eqLeaf
  rw [J.joinB_inj (by simp [hl, hv, D.eight_length]) (by simp [hl', hv', D.eight_length]), Bool.and_eq_true, Bool.and_eq_true, beq_iff_eq, beq_iff_eq, beq_iff_eq]
  constructor
  · rintro ⟨-, h⟩
    injection h with h1 h; injection h with h2 h; injection h with h3 h
    exact ⟨⟨h1, h2⟩, eight_inj ht ht' h3⟩
  · rintro ⟨⟨rfl, rfl⟩, rfl⟩; exact ⟨rfl, rfl⟩
theorem itemT_eq {n : Int} {p s : List UInt8} {t : Int} {n' : Int} {p' s' : List UInt8} {t' : Int} (hn : (Lit.int .i64 n).wf = true) (hp : p.length = 32) (hs : s.length = 32) (ht : (Lit.int .i64 t).wf = true) (hn' : (Lit.int .i64 n').wf = true) (hp' : p'.length = 32) (hs' : s'.length = 32) (ht' : (Lit.int .i64 t').wf = true) :
    D.itemT n p s t = D.itemT n' p' s' t' ↔ D.eqItem n p s t n' p' s' t' = true := by
  unfold D.itemT D.eqItem
  rw [Bool.and_eq_true, Bool.and_eq_true, Bool.and_eq_true, beq_iff_eq, beq_iff_eq, beq_iff_eq, beq_iff_eq]
  constructor
  · intro h
    obtain ⟨h, h4⟩ := List.append_inj h (by simp [D.eight_length, hp, hs, hp', hs'])
    obtain ⟨h, h3⟩ := List.append_inj h (by simp [D.eight_length, hp, hp'])
    obtain ⟨h1, h2⟩ := List.append_inj h (by simp [D.eight_length])
    exact ⟨⟨⟨eight_inj hn hn' h1, h2⟩, h3⟩, eight_inj ht ht' h4⟩
  · rintro ⟨⟨⟨rfl, rfl⟩, rfl⟩, rfl⟩; rfl
theorem innerT_eq {a b c d : List UInt8} (ha : a.length = 80) (hb : b.length = 80) (hc : c.length = 80) (hd : d.length = 80) : D.innerT a b = D.innerT c d ↔ a = c ∧ b = d := by
  unfold D.innerT
  rw [J.joinB_inj (by simp [ha, hb]) (by simp [hc, hd])]
  constructor
  · rintro ⟨-, h⟩
    injection h with h1 h; injection h with h2 h
    exact ⟨h1, h2⟩
  · rintro ⟨rfl, rfl⟩; exact ⟨rfl, rfl⟩
theorem leaf_inner (l v : List UInt8) (t : Int) (a b : List UInt8) : (D.leafT l v t == D.innerT a b) = false := by
  rw [beq_eq_false_iff_ne]
  intro h
  have := congrArg List.head? h
  simp [D.leafT, D.innerT, J.joinB] at this
theorem eqLeaf_self (l v : List UInt8) (t : Int) : D.eqLeaf l v t l v t = true := by simp [D.eqLeaf]
theorem eqItem_self (n : Int) (p s : List UInt8) (t : Int) : D.eqItem n p s t n p s t = true := by simp [D.eqItem]
theorem wf256 : (Lit.int .i64 256).wf = true := by decide
/-- Six boxes. -/
theorem box6 (w : World) (c0 c1 c2 c3 c4 c5 : Array Value) (t0 t1 t2 t3 t4 t5 : TypeId) : ∀ W, W = (((((w.alloc (.cells c0 t0)).alloc (.cells c1 t1)).alloc (.cells c2 t2)).alloc (.cells c3 t3)).alloc (.cells c4 t4)).alloc (.cells c5 t5) →
    Blk W w.heap.size c0 t0 ∧ Blk W (w.heap.size + 1) c1 t1 ∧ Blk W (w.heap.size + 1 + 1) c2 t2 ∧ Blk W (w.heap.size + 1 + 1 + 1) c3 t3 ∧ Blk W (w.heap.size + 1 + 1 + 1 + 1) c4 t4 ∧ Blk W (w.heap.size + 1 + 1 + 1 + 1 + 1) c5 t5 ∧ Below w.heap.size w W := by
  rintro W rfl
  have k1 := Blk.new (w.alloc (.cells c0 t0)) c1 t1
  have k2 := Blk.new ((w.alloc (.cells c0 t0)).alloc (.cells c1 t1)) c2 t2
  have k3 := Blk.new (((w.alloc (.cells c0 t0)).alloc (.cells c1 t1)).alloc (.cells c2 t2)) c3 t3
  have k4 := Blk.new ((((w.alloc (.cells c0 t0)).alloc (.cells c1 t1)).alloc (.cells c2 t2)).alloc (.cells c3 t3)) c4 t4
  have k5 := Blk.new (((((w.alloc (.cells c0 t0)).alloc (.cells c1 t1)).alloc (.cells c2 t2)).alloc (.cells c3 t3)).alloc (.cells c4 t4)) c5 t5
  simp only [World.size_alloc] at k1 k2 k3 k4 k5
  exact ⟨(((((Blk.new w c0 t0).alloc _).alloc _).alloc _).alloc _).alloc _, (((k1.alloc _).alloc _).alloc _).alloc _, ((k2.alloc _).alloc _).alloc _, (k3.alloc _).alloc _, k4.alloc _, k5,
    ((((((Below.refl w.heap.size w).alloc (Nat.le_refl _) _).alloc (by simp only [World.size_alloc]; omega) _).alloc (by simp only [World.size_alloc]; omega) _).alloc (by simp only [World.size_alloc]; omega) _).alloc (by simp only [World.size_alloc]; omega) _).alloc (by simp only [World.size_alloc]; omega) _⟩
set_option maxRecDepth 100000 in
set_option maxHeartbeats 8000000 in
theorem napart_walk (k u : List UInt8) (i : Int) (l v : List UInt8) (j : Int) (n0 : Int) (p0 s0 : List UInt8) (t0 : Int) (n1 : Int) (p1 s1 : List UInt8) (t1 : Int) (n2 : Int) (p2 s2 : List UInt8) (t2 : Int) (n3 : Int) (p3 s3 : List UInt8) (t3 : Int)
    (hk : k.length = 32) (hu : u.length = 32) (hi : (Lit.int .i64 i).wf = true) (hl : l.length = 32) (hv : v.length = 32) (hj : (Lit.int .i64 j).wf = true)
    (hn0 : (Lit.int .i64 n0).wf = true) (hp0 : p0.length = 32) (hs0 : s0.length = 32) (ht0 : (Lit.int .i64 t0).wf = true) (hn1 : (Lit.int .i64 n1).wf = true) (hp1 : p1.length = 32) (hs1 : s1.length = 32) (ht1 : (Lit.int .i64 t1).wf = true)
    (hn2 : (Lit.int .i64 n2).wf = true) (hp2 : p2.length = 32) (hs2 : s2.length = 32) (ht2 : (Lit.int .i64 t2).wf = true) (hn3 : (Lit.int .i64 n3).wf = true) (hp3 : p3.length = 32) (hs3 : s3.length = 32) (ht3 : (Lit.int .i64 t3).wf = true) (w : World) :
    Calls Try.prog 14 #[.agg (leafC k u i).toArray, .agg (leafC l v j).toArray, .agg (itemC n0 p0 s0 t0).toArray, .agg (itemC n1 p1 s1 t1).toArray, .agg (itemC n2 p2 s2 t2).toArray, .agg (itemC n3 p3 s3 t3).toArray] w fun e w' => e = .returned (.bool true) ∧ Below w.heap.size w w' := by
  have LK := Lib.hid (fun W => rleafB_any k u i hk hu W)
  have LL := Lib.hid (fun W => rleafB_any l v j hl hv W)
  have T0 := Lib.hid (fun W => told_any n0 p0 s0 t0 hp0 hs0 W)
  have T1 := Lib.hid (fun W => told_any n1 p1 s1 t1 hp1 hs1 W)
  have T2 := Lib.hid (fun W => told_any n2 p2 s2 t2 hp2 hs2 W)
  have T3 := Lib.hid (fun W => told_any n3 p3 s3 t3 hp3 hs3 W)
  have I01 := Lib.hid (fun W => rinnerB_any n0 p0 s0 t0 n1 p1 s1 t1 hp0 hs0 hp1 hs1 W)
  have I23 := Lib.hid (fun W => rinnerB_any n2 p2 s2 t2 n3 p3 s3 t3 hp2 hs2 hp3 hs3 W)
  have IK := Lib.hid (fun W => leafItem_any k u i hk hu W)
  have AA := Lib.hid (fun W => nawake_any W)
  have hq0 := Lib.hid (fun W => eql61 k u i l v j hk hu hi hl hv hj W)
  have hnq0 := Lib.hid (fun W => neq61 k u i l v j hk hu hi hl hv hj W)
  have hq1 := Lib.hid (fun W => eql65 n0 p0 s0 t0 n2 p2 s2 t2 hn0 hp0 hs0 ht0 hn2 hp2 hs2 ht2 W)
  have hq2 := Lib.hid (fun W => eql65 n1 p1 s1 t1 n3 p3 s3 t3 hn1 hp1 hs1 ht1 hn3 hp3 hs3 ht3 W)
  have IL := Lib.hid (fun W => leafItem_any l v j hl hv W)
  have hsq : D.eqLeaf k u i l v j = true → ∀ W : World, (binOp .eql 65 (.agg (itemC 256 k (S.sum (D.leafT k u i)) i).toArray) (.agg (itemC 256 l (S.sum (D.leafT l v j)) j).toArray)).run Try.prog W = .ok (.bool true) W := fun h W => by
    unfold D.eqLeaf at h
    simp only [Bool.and_eq_true, beq_iff_eq] at h
    obtain ⟨⟨rfl, rfl⟩, rfl⟩ := h
    exact (eql65 256 k (S.sum (D.leafT k u i)) i 256 k (S.sum (D.leafT k u i)) i wf256 hk (S.sum_length _) hi wf256 hk (S.sum_length _) hi W).trans (by rw [eqItem_self])
  have hx0 := leafT_eq hk hu hi hl hv hj
  have hx2 := leaf_inner k u i (D.itemT n0 p0 s0 t0) (D.itemT n1 p1 s1 t1)
  have hx1 : (D.innerT (D.itemT n0 p0 s0 t0) (D.itemT n1 p1 s1 t1) == D.innerT (D.itemT n2 p2 s2 t2) (D.itemT n3 p3 s3 t3)) = (D.eqItem n0 p0 s0 t0 n2 p2 s2 t2 && D.eqItem n1 p1 s1 t1 n3 p3 s3 t3) := by
    rw [Bool.eq_iff_iff, beq_iff_eq, innerT_eq (itemT_len _ _ _ _ hp0 hs0) (itemT_len _ _ _ _ hp1 hs1) (itemT_len _ _ _ _ hp2 hs2) (itemT_len _ _ _ _ hp3 hs3), Bool.and_eq_true, itemT_eq hn0 hp0 hs0 ht0 hn2 hp2 hs2 ht2, itemT_eq hn1 hp1 hs1 ht1 hn3 hp3 hs3 ht3]
  have hz0 : (Try.prog.info? 61).map (·.size) = some (leafC k u i).length := by rw [leafC_length k u i hk hu]; exact info_leaf
  have hz1 : (Try.prog.info? 61).map (·.size) = some (leafC l v j).length := by rw [leafC_length l v j hl hv]; exact info_leaf
  have hz2 : (Try.prog.info? 65).map (·.size) = some (itemC n0 p0 s0 t0).length := by rw [itemC_length n0 p0 s0 t0 hp0 hs0]; exact info_item
  have hz3 : (Try.prog.info? 65).map (·.size) = some (itemC n1 p1 s1 t1).length := by rw [itemC_length n1 p1 s1 t1 hp1 hs1]; exact info_item
  have hz4 : (Try.prog.info? 65).map (·.size) = some (itemC n2 p2 s2 t2).length := by rw [itemC_length n2 p2 s2 t2 hp2 hs2]; exact info_item
  have hz5 : (Try.prog.info? 65).map (·.size) = some (itemC n3 p3 s3 t3).length := by rw [itemC_length n3 p3 s3 t3 hp3 hs3]; exact info_item
  obtain ⟨B0, B1, B2, B3, B4, B5, hB⟩ := box6 w (leafC k u i).toArray (leafC l v j).toArray (itemC n0 p0 s0 t0).toArray (itemC n1 p1 s1 t1).toArray (itemC n2 p2 s2 t2).toArray (itemC n3 p3 s3 t3).toArray 61 61 65 65 65 65 _ rfl
  generalize S.sum (D.leafT k u i) = sk at *
  generalize S.sum (D.leafT l v j) = sl at *
  generalize D.leafT k u i = LTk at *
  generalize D.leafT l v j = LTl at *
  generalize D.innerT (D.itemT n0 p0 s0 t0) (D.itemT n1 p1 s1 t1) = IT1 at *
  generalize D.innerT (D.itemT n2 p2 s2 t2) (D.itemT n3 p3 s3 t3) = IT2 at *
  clear hk hu hi hl hv hj hn0 hp0 hs0 ht0 hn1 hp1 hs1 ht1 hn2 hp2 hs2 ht2 hn3 hp3 hs3 ht3
  go_enter Try.func14, Try.ntmps14
  go_wp2
  generalize (((((w.alloc (.cells (leafC k u i).toArray 61)).alloc (.cells (leafC l v j).toArray 61)).alloc (.cells (itemC n0 p0 s0 t0).toArray 65)).alloc (.cells (itemC n1 p1 s1 t1).toArray 65)).alloc (.cells (itemC n2 p2 s2 t2).toArray 65)).alloc (.cells (itemC n3 p3 s3 t3).toArray 65) = w0 at *
  generalize D.eqLeaf k u i l v j = E0 at *
  generalize D.eqItem n0 p0 s0 t0 n2 p2 s2 t2 = E1 at *
  generalize D.eqItem n1 p1 s1 t1 n3 p3 s3 t3 = E2 at *
  cases E0
  · have h0 : (LTk == LTl) = false := hx0
    clear hx0
    clear hsq
    apply wp_region_rel_below [[(6, none)], [(13, some 0)], [(7, none)], [(15, some 2)], [(14, some 1), (16, some 3)], [(6, none)], [(7, none)], [(18, some 5), (19, some 6)], [(17, some 4), (20, some 7)]] [eqv _, eqv _, eqv _, eqv _, eqv _, eqv _, eqv _, eqv _, eqv _] (by kernel_rfl) (by kernel_rfl)
    case hobs =>
      refine ⟨?_, ?_⟩
      · rintro L a1 w1 hT - - ⟨h6, -⟩   -- 0: Op.load 61 t6
        have e6 : a1.tmps.getD 6 undef = _ := h6
        have f6 := getD_form e6
        clear h6
        exact wp_load_blkL 61 (.tmp 6) rfl _ e6 (cs := leafC k u i) B0 hT _ Try.underlying61 (by rfl) hz0 (left_intro rfl (Stp.refl _) trivial)
      refine ⟨?_, ?_⟩
      · rintro L a1 w1 hT - - ⟨h13, -⟩   -- 1: Op.call { value (Operand.func 51), args := #[t13], argTypes := #[77] }
        have e13 : a1.tmps.getD 13 undef = _ := h13
        have f13 := getD_form e13
        clear h13
        go_simp; go_at_call 51; (with_reducible refine (LK.out _).mono ?_); rintro e w2 ⟨rfl, hb⟩; exact left_intro rfl (Stp.of hb) trivial
      refine ⟨?_, ?_⟩
      · rintro L a1 w1 hT - - ⟨h7, -⟩   -- 2: Op.load 61 t7
        have e7 : a1.tmps.getD 7 undef = _ := h7
        have f7 := getD_form e7
        clear h7
        exact wp_load_blkL 61 (.tmp 7) rfl _ e7 (cs := leafC l v j) B1 hT _ Try.underlying61 (by rfl) hz1 (left_intro rfl (Stp.refl _) trivial)
      refine ⟨?_, ?_⟩
      · rintro L a1 w1 hT - - ⟨h15, -⟩   -- 3: Op.call { value (Operand.func 51), args := #[t15], argTypes := #[77] }
        have e15 : a1.tmps.getD 15 undef = _ := h15
        have f15 := getD_form e15
        clear h15
        go_simp; go_at_call 51; (with_reducible refine (LL.out _).mono ?_); rintro e w2 ⟨rfl, hb⟩; exact left_intro rfl (Stp.of hb) trivial
      refine ⟨?_, ?_⟩
      · rintro L a1 w1 hT - - ⟨h14, h16, -⟩   -- 4: Op.binOp BinOp.eql 9 t14 t16 9
        have e14 : a1.tmps.getD 14 undef = _ := h14
        have f14 := getD_form e14
        have e16 : a1.tmps.getD 16 undef = _ := h16
        have f16 := getD_form e16
        clear h14 h16
        go_simp; exact left_intro rfl (Stp.refl _) trivial
      refine ⟨?_, ?_⟩
      · rintro L a1 w1 hT - - ⟨h6, -⟩   -- 5: Op.load 61 t6
        have e6 : a1.tmps.getD 6 undef = _ := h6
        have f6 := getD_form e6
        clear h6
        exact wp_load_blkL 61 (.tmp 6) rfl _ e6 (cs := leafC k u i) B0 hT _ Try.underlying61 (by rfl) hz0 (left_intro rfl (Stp.refl _) trivial)
      refine ⟨?_, ?_⟩
      · rintro L a1 w1 hT - - ⟨h7, -⟩   -- 6: Op.load 61 t7
        have e7 : a1.tmps.getD 7 undef = _ := h7
        have f7 := getD_form e7
        clear h7
        exact wp_load_blkL 61 (.tmp 7) rfl _ e7 (cs := leafC l v j) B1 hT _ Try.underlying61 (by rfl) hz1 (left_intro rfl (Stp.refl _) trivial)
      refine ⟨?_, ?_⟩
      · rintro L a1 w1 hT - - ⟨h18, h19, -⟩   -- 7: Op.binOp BinOp.eql 61 t18 t19 61
        have e18 : a1.tmps.getD 18 undef = _ := h18
        have f18 := getD_form e18
        have e19 : a1.tmps.getD 19 undef = _ := h19
        have f19 := getD_form e19
        clear h18 h19
        exact wp_bin .eql 61 61 (.tmp 18) (.tmp 19) rfl _ _ e18 e19 guard61 _ (hq0.out _) (left_intro rfl (Stp.refl _) trivial)
      refine ⟨?_, ?_⟩
      · rintro L a1 w1 hT - - ⟨h17, h20, -⟩   -- 8: Op.binOp BinOp.neq 4 t17 t20 4
        have e17 : a1.tmps.getD 17 undef = _ := h17
        have f17 := getD_form e17
        have e20 : a1.tmps.getD 20 undef = _ := h20
        have f20 := getD_form e20
        clear h17 h20
        go_simp; exact left_intro rfl (Stp.refl _) trivial
      trivial
    case hmono => repeat (first | exact trivial | refine ⟨fun _ _ _ _ h => h, ?_⟩)
    case hend =>
      intro w2 hT
      rintro _ rfl _ rfl _ rfl _ rfl _ rfl _ rfl _ rfl _ rfl _ rfl
      simp only [relEnd, Act.put, List.setIfInBounds_toArray, List.set_cons_succ, List.set_cons_zero]
      replace B0 := B0.at_ hT
      replace B1 := B1.at_ hT
      replace B2 := B2.at_ hT
      replace B3 := B3.at_ hT
      replace B4 := B4.at_ hT
      replace B5 := B5.at_ hT
      replace hB := hB.trans (Below.mono hT hB.size)
      clear hT
      go_wp2
      cases E1
      · have hd : (IT1 == IT2) = false := by rw [hx1, Bool.false_and]
        clear hx1
        apply wp_region_rel_below [[(8, none)], [(22, some 0)], [(9, none)], [(24, some 2)], [(23, some 1), (25, some 3)], [(10, none)], [(27, some 5)], [(11, none)], [(29, some 7)], [(28, some 6), (30, some 8)], [(26, some 4), (31, some 9)], [(8, none)], [(10, none)], [(33, some 11), (34, some 12)], [(35, some 13)], [(9, none), (36, some 14)], [(11, none), (36, some 14)], [(37, some 15), (38, some 16), (36, some 14)], [(36, some 14), (39, some 17)], [(32, some 10), (40, some 18)]] [eqv _, eqv _, eqv _, eqv _, eqv _, eqv _, eqv _, eqv _, eqv _, eqv _, eqv _, eqv _, eqv _, eqv _, eqv _, eqv _, eqv _, eqv _, eqv _, eqv _] (by kernel_rfl) (by kernel_rfl)
        case hobs =>
          refine ⟨?_, ?_⟩
          · rintro L a1 w1 hT - - ⟨h8, -⟩   -- 0: Op.load 65 t8
            have e8 : a1.tmps.getD 8 undef = _ := h8
            have f8 := getD_form e8
            clear h8
            exact wp_load_blkL 65 (.tmp 8) rfl _ e8 (cs := itemC n0 p0 s0 t0) B2 hT _ Try.underlying65 (by rfl) hz2 (left_intro rfl (Stp.refl _) trivial)
          refine ⟨?_, ?_⟩
          · rintro L a1 w1 hT - - ⟨h22, -⟩   -- 1: Op.call { value (Operand.func 46), args := #[t22], argTypes := #[65] }
            have e22 : a1.tmps.getD 22 undef = _ := h22
            have f22 := getD_form e22
            clear h22
            go_simp; go_at_call 46; (with_reducible refine (T0.out _).mono ?_); rintro e w2 ⟨rfl, hb⟩; exact left_intro rfl (Stp.of hb) trivial
          refine ⟨?_, ?_⟩
          · rintro L a1 w1 hT - - ⟨h9, -⟩   -- 2: Op.load 65 t9
            have e9 : a1.tmps.getD 9 undef = _ := h9
            have f9 := getD_form e9
            clear h9
            exact wp_load_blkL 65 (.tmp 9) rfl _ e9 (cs := itemC n1 p1 s1 t1) B3 hT _ Try.underlying65 (by rfl) hz3 (left_intro rfl (Stp.refl _) trivial)
          refine ⟨?_, ?_⟩
          · rintro L a1 w1 hT - - ⟨h24, -⟩   -- 3: Op.call { value (Operand.func 46), args := #[t24], argTypes := #[65] }
            have e24 : a1.tmps.getD 24 undef = _ := h24
            have f24 := getD_form e24
            clear h24
            go_simp; go_at_call 46; (with_reducible refine (T1.out _).mono ?_); rintro e w2 ⟨rfl, hb⟩; exact left_intro rfl (Stp.of hb) trivial
          refine ⟨?_, ?_⟩
          · rintro L a1 w1 hT - - ⟨h23, h25, -⟩   -- 4: Op.call { value (Operand.func 52), args := #[t23, t25], argTypes := #[72, 72] }
            have e23 : a1.tmps.getD 23 undef = _ := h23
            have f23 := getD_form e23
            have e25 : a1.tmps.getD 25 undef = _ := h25
            have f25 := getD_form e25
            clear h23 h25
            go_simp; go_at_call 52; (with_reducible refine (I01.out _).mono ?_); rintro e w2 ⟨rfl, hb⟩; exact left_intro rfl (Stp.of hb) trivial
          refine ⟨?_, ?_⟩
          · rintro L a1 w1 hT - - ⟨h10, -⟩   -- 5: Op.load 65 t10
            have e10 : a1.tmps.getD 10 undef = _ := h10
            have f10 := getD_form e10
            clear h10
            exact wp_load_blkL 65 (.tmp 10) rfl _ e10 (cs := itemC n2 p2 s2 t2) B4 hT _ Try.underlying65 (by rfl) hz4 (left_intro rfl (Stp.refl _) trivial)
          refine ⟨?_, ?_⟩
          · rintro L a1 w1 hT - - ⟨h27, -⟩   -- 6: Op.call { value (Operand.func 46), args := #[t27], argTypes := #[65] }
            have e27 : a1.tmps.getD 27 undef = _ := h27
            have f27 := getD_form e27
            clear h27
            go_simp; go_at_call 46; (with_reducible refine (T2.out _).mono ?_); rintro e w2 ⟨rfl, hb⟩; exact left_intro rfl (Stp.of hb) trivial
          refine ⟨?_, ?_⟩
          · rintro L a1 w1 hT - - ⟨h11, -⟩   -- 7: Op.load 65 t11
            have e11 : a1.tmps.getD 11 undef = _ := h11
            have f11 := getD_form e11
            clear h11
            exact wp_load_blkL 65 (.tmp 11) rfl _ e11 (cs := itemC n3 p3 s3 t3) B5 hT _ Try.underlying65 (by rfl) hz5 (left_intro rfl (Stp.refl _) trivial)
          refine ⟨?_, ?_⟩
          · rintro L a1 w1 hT - - ⟨h29, -⟩   -- 8: Op.call { value (Operand.func 46), args := #[t29], argTypes := #[65] }
            have e29 : a1.tmps.getD 29 undef = _ := h29
            have f29 := getD_form e29
            clear h29
            go_simp; go_at_call 46; (with_reducible refine (T3.out _).mono ?_); rintro e w2 ⟨rfl, hb⟩; exact left_intro rfl (Stp.of hb) trivial
          refine ⟨?_, ?_⟩
          · rintro L a1 w1 hT - - ⟨h28, h30, -⟩   -- 9: Op.call { value (Operand.func 52), args := #[t28, t30], argTypes := #[72, 72] }
            have e28 : a1.tmps.getD 28 undef = _ := h28
            have f28 := getD_form e28
            have e30 : a1.tmps.getD 30 undef = _ := h30
            have f30 := getD_form e30
            clear h28 h30
            go_simp; go_at_call 52; (with_reducible refine (I23.out _).mono ?_); rintro e w2 ⟨rfl, hb⟩; exact left_intro rfl (Stp.of hb) trivial
          refine ⟨?_, ?_⟩
          · rintro L a1 w1 hT - - ⟨h26, h31, -⟩   -- 10: Op.binOp BinOp.eql 9 t26 t31 9
            have e26 : a1.tmps.getD 26 undef = _ := h26
            have f26 := getD_form e26
            have e31 : a1.tmps.getD 31 undef = _ := h31
            have f31 := getD_form e31
            clear h26 h31
            go_simp; exact left_intro rfl (Stp.refl _) trivial
          refine ⟨?_, ?_⟩
          · rintro L a1 w1 hT - - ⟨h8, -⟩   -- 11: Op.load 65 t8
            have e8 : a1.tmps.getD 8 undef = _ := h8
            have f8 := getD_form e8
            clear h8
            exact wp_load_blkL 65 (.tmp 8) rfl _ e8 (cs := itemC n0 p0 s0 t0) B2 hT _ Try.underlying65 (by rfl) hz2 (left_intro rfl (Stp.refl _) trivial)
          refine ⟨?_, ?_⟩
          · rintro L a1 w1 hT - - ⟨h10, -⟩   -- 12: Op.load 65 t10
            have e10 : a1.tmps.getD 10 undef = _ := h10
            have f10 := getD_form e10
            clear h10
            exact wp_load_blkL 65 (.tmp 10) rfl _ e10 (cs := itemC n2 p2 s2 t2) B4 hT _ Try.underlying65 (by rfl) hz4 (left_intro rfl (Stp.refl _) trivial)
          refine ⟨?_, ?_⟩
          · rintro L a1 w1 hT - - ⟨h33, h34, -⟩   -- 13: Op.binOp BinOp.eql 65 t33 t34 65
            have e33 : a1.tmps.getD 33 undef = _ := h33
            have f33 := getD_form e33
            have e34 : a1.tmps.getD 34 undef = _ := h34
            have f34 := getD_form e34
            clear h33 h34
            exact wp_bin .eql 65 65 (.tmp 33) (.tmp 34) rfl _ _ e33 e34 guard65 _ (hq1.out _) (left_intro rfl (Stp.refl _) trivial)
          refine ⟨?_, ?_⟩
          · rintro L a1 w1 hT - - ⟨h35, -⟩   -- 14: Op.move t35
            have e35 : a1.tmps.getD 35 undef = _ := h35
            have f35 := getD_form e35
            clear h35
            go_simp; exact left_intro rfl (Stp.refl _) trivial
          refine ⟨?_, ?_⟩
          · rintro L a1 w1 hT - - ⟨h9, h36, -⟩   -- 15: Op.load 65 t9
            have e9 : a1.tmps.getD 9 undef = _ := h9
            have f9 := getD_form e9
            have e36 : a1.tmps.getD 36 undef = _ := h36
            have f36 := getD_form e36
            clear h9 h36
            refine ⟨false, 36, by rfl, e36, ?_⟩; rw [if_neg (by decide)]
            exact left_intro rfl (Stp.refl _) trivial
          refine ⟨?_, ?_⟩
          · rintro L a1 w1 hT - - ⟨h11, h36, -⟩   -- 16: Op.load 65 t11
            have e11 : a1.tmps.getD 11 undef = _ := h11
            have f11 := getD_form e11
            have e36 : a1.tmps.getD 36 undef = _ := h36
            have f36 := getD_form e36
            clear h11 h36
            refine ⟨false, 36, by rfl, e36, ?_⟩; rw [if_neg (by decide)]
            exact left_intro rfl (Stp.refl _) trivial
          refine ⟨?_, ?_⟩
          · rintro L a1 w1 hT - - ⟨h37, h38, h36, -⟩   -- 17: Op.binOp BinOp.eql 65 t37 t38 65
            have e37 : a1.tmps.getD 37 undef = _ := h37
            have f37 := getD_form e37
            have e38 : a1.tmps.getD 38 undef = _ := h38
            have f38 := getD_form e38
            have e36 : a1.tmps.getD 36 undef = _ := h36
            have f36 := getD_form e36
            clear h37 h38 h36
            refine ⟨false, 36, by rfl, e36, ?_⟩; rw [if_neg (by decide)]
            exact left_intro rfl (Stp.refl _) trivial
          refine ⟨?_, ?_⟩
          · rintro L a1 w1 hT - - ⟨h36, h39, -⟩   -- 18: Op.pick t36 t39 (const (Value.bool false))
            have e36 : a1.tmps.getD 36 undef = _ := h36
            have f36 := getD_form e36
            have e39 : a1.tmps.getD 39 undef = _ := h39
            have f39 := getD_form e39
            clear h36 h39
            go_simp; exact left_intro rfl (Stp.refl _) trivial
          refine ⟨?_, ?_⟩
          · rintro L a1 w1 hT - - ⟨h32, h40, -⟩   -- 19: Op.binOp BinOp.neq 4 t32 t40 4
            have e32 : a1.tmps.getD 32 undef = _ := h32
            have f32 := getD_form e32
            have e40 : a1.tmps.getD 40 undef = _ := h40
            have f40 := getD_form e40
            clear h32 h40
            go_simp; exact left_intro rfl (Stp.refl _) trivial
          trivial
        case hmono => repeat (first | exact trivial | refine ⟨fun _ _ _ _ h => h, ?_⟩)
        case hend =>
          intro w2 hT
          rintro _ rfl _ rfl _ rfl _ rfl _ rfl _ rfl _ rfl _ rfl _ rfl _ rfl _ rfl _ rfl _ rfl _ rfl _ rfl _ rfl _ rfl _ rfl _ rfl _ rfl
          simp only [relEnd, Act.put, List.setIfInBounds_toArray, List.set_cons_succ, List.set_cons_zero]
          replace B0 := B0.at_ hT
          replace B1 := B1.at_ hT
          replace B2 := B2.at_ hT
          replace B3 := B3.at_ hT
          replace B4 := B4.at_ hT
          replace B5 := B5.at_ hT
          replace hB := hB.trans (Below.mono hT hB.size)
          clear hT
          go_wp2
          apply wp_region_rel_below [[], [(42, some 0)], [(6, none), (43, some 1)], [(44, some 2), (43, some 1)], [(8, none), (43, some 1)], [(46, some 4), (43, some 1)], [(9, none), (43, some 1)], [(48, some 6), (43, some 1)], [(47, some 5), (49, some 7), (43, some 1)], [(45, some 3), (50, some 8), (43, some 1)], [(43, some 1), (51, some 9)], [(52, some 10)], [(6, none), (53, some 11)], [(7, none), (53, some 11)], [(54, some 12), (55, some 13), (53, some 11)], [(56, some 14), (53, some 11)], [(6, none), (57, some 15)], [(58, some 16), (57, some 15)], [(7, none), (57, some 15)], [(60, some 18), (57, some 15)], [(59, some 17), (61, some 19), (57, some 15)], [(57, some 15), (62, some 20), (53, some 11)], [(53, some 11), (63, some 21)], [(64, some 22)]] [eqv _, eqv _, eqv _, eqv _, eqv _, eqv _, eqv _, eqv _, eqv _, eqv _, eqv _, eqv _, eqv _, eqv _, eqv _, eqv _, eqv _, eqv _, eqv _, eqv _, eqv _, eqv _, eqv _, eqv _] (by kernel_rfl) (by kernel_rfl)
          case hobs =>
            refine ⟨?_, ?_⟩
            · rintro L a1 w1 hT - - -   -- 0: Op.call { value (Operand.func 47), args := #[], argTypes := #[] }
              go_simp; go_at_call 47; (with_reducible refine (AA.out _).mono ?_); rintro e w2 ⟨rfl, hb⟩; exact left_intro rfl (Stp.of hb) trivial
            refine ⟨?_, ?_⟩
            · rintro L a1 w1 hT - - ⟨h42, -⟩   -- 1: Op.move t42
              have e42 : a1.tmps.getD 42 undef = _ := h42
              have f42 := getD_form e42
              clear h42
              go_simp; exact left_intro rfl (Stp.refl _) trivial
            refine ⟨?_, ?_⟩
            · rintro L a1 w1 hT - - ⟨h6, h43, -⟩   -- 2: Op.load 61 t6
              have e6 : a1.tmps.getD 6 undef = _ := h6
              have f6 := getD_form e6
              have e43 : a1.tmps.getD 43 undef = _ := h43
              have f43 := getD_form e43
              clear h6 h43
              refine ⟨true, 43, by rfl, e43, ?_⟩; rw [if_pos rfl]
              exact wp_load_blkL 61 (.tmp 6) rfl _ e6 (cs := leafC k u i) B0 hT _ Try.underlying61 (by rfl) hz0 (left_intro rfl (Stp.refl _) trivial)
            refine ⟨?_, ?_⟩
            · rintro L a1 w1 hT - - ⟨h44, h43, -⟩   -- 3: Op.call { value (Operand.func 51), args := #[t44], argTypes := #[77] }
              have e44 : a1.tmps.getD 44 undef = _ := h44
              have f44 := getD_form e44
              have e43 : a1.tmps.getD 43 undef = _ := h43
              have f43 := getD_form e43
              clear h44 h43
              refine ⟨true, 43, by rfl, e43, ?_⟩; rw [if_pos rfl]
              go_simp; go_at_call 51; (with_reducible refine (LK.out _).mono ?_); rintro e w2 ⟨rfl, hb⟩; exact left_intro rfl (Stp.of hb) trivial
            refine ⟨?_, ?_⟩
            · rintro L a1 w1 hT - - ⟨h8, h43, -⟩   -- 4: Op.load 65 t8
              have e8 : a1.tmps.getD 8 undef = _ := h8
              have f8 := getD_form e8
              have e43 : a1.tmps.getD 43 undef = _ := h43
              have f43 := getD_form e43
              clear h8 h43
              refine ⟨true, 43, by rfl, e43, ?_⟩; rw [if_pos rfl]
              exact wp_load_blkL 65 (.tmp 8) rfl _ e8 (cs := itemC n0 p0 s0 t0) B2 hT _ Try.underlying65 (by rfl) hz2 (left_intro rfl (Stp.refl _) trivial)
            refine ⟨?_, ?_⟩
            · rintro L a1 w1 hT - - ⟨h46, h43, -⟩   -- 5: Op.call { value (Operand.func 46), args := #[t46], argTypes := #[65] }
              have e46 : a1.tmps.getD 46 undef = _ := h46
              have f46 := getD_form e46
              have e43 : a1.tmps.getD 43 undef = _ := h43
              have f43 := getD_form e43
              clear h46 h43
              refine ⟨true, 43, by rfl, e43, ?_⟩; rw [if_pos rfl]
              go_simp; go_at_call 46; (with_reducible refine (T0.out _).mono ?_); rintro e w2 ⟨rfl, hb⟩; exact left_intro rfl (Stp.of hb) trivial
            refine ⟨?_, ?_⟩
            · rintro L a1 w1 hT - - ⟨h9, h43, -⟩   -- 6: Op.load 65 t9
              have e9 : a1.tmps.getD 9 undef = _ := h9
              have f9 := getD_form e9
              have e43 : a1.tmps.getD 43 undef = _ := h43
              have f43 := getD_form e43
              clear h9 h43
              refine ⟨true, 43, by rfl, e43, ?_⟩; rw [if_pos rfl]
              exact wp_load_blkL 65 (.tmp 9) rfl _ e9 (cs := itemC n1 p1 s1 t1) B3 hT _ Try.underlying65 (by rfl) hz3 (left_intro rfl (Stp.refl _) trivial)
            refine ⟨?_, ?_⟩
            · rintro L a1 w1 hT - - ⟨h48, h43, -⟩   -- 7: Op.call { value (Operand.func 46), args := #[t48], argTypes := #[65] }
              have e48 : a1.tmps.getD 48 undef = _ := h48
              have f48 := getD_form e48
              have e43 : a1.tmps.getD 43 undef = _ := h43
              have f43 := getD_form e43
              clear h48 h43
              refine ⟨true, 43, by rfl, e43, ?_⟩; rw [if_pos rfl]
              go_simp; go_at_call 46; (with_reducible refine (T1.out _).mono ?_); rintro e w2 ⟨rfl, hb⟩; exact left_intro rfl (Stp.of hb) trivial
            refine ⟨?_, ?_⟩
            · rintro L a1 w1 hT - - ⟨h47, h49, h43, -⟩   -- 8: Op.call { value (Operand.func 52), args := #[t47, t49], argTypes := #[72, 72] }
              have e47 : a1.tmps.getD 47 undef = _ := h47
              have f47 := getD_form e47
              have e49 : a1.tmps.getD 49 undef = _ := h49
              have f49 := getD_form e49
              have e43 : a1.tmps.getD 43 undef = _ := h43
              have f43 := getD_form e43
              clear h47 h49 h43
              refine ⟨true, 43, by rfl, e43, ?_⟩; rw [if_pos rfl]
              go_simp; go_at_call 52; (with_reducible refine (I01.out _).mono ?_); rintro e w2 ⟨rfl, hb⟩; exact left_intro rfl (Stp.of hb) trivial
            refine ⟨?_, ?_⟩
            · rintro L a1 w1 hT - - ⟨h45, h50, h43, -⟩   -- 9: Op.binOp BinOp.neq 9 t45 t50 9
              have e45 : a1.tmps.getD 45 undef = _ := h45
              have f45 := getD_form e45
              have e50 : a1.tmps.getD 50 undef = _ := h50
              have f50 := getD_form e50
              have e43 : a1.tmps.getD 43 undef = _ := h43
              have f43 := getD_form e43
              clear h45 h50 h43
              refine ⟨true, 43, by rfl, e43, ?_⟩; rw [if_pos rfl]
              go_simp; exact left_intro rfl (Stp.refl _) trivial
            refine ⟨?_, ?_⟩
            · rintro L a1 w1 hT - - ⟨h43, h51, -⟩   -- 10: Op.pick t43 t51 (const (Value.bool false))
              have e43 : a1.tmps.getD 43 undef = _ := h43
              have f43 := getD_form e43
              have e51 : a1.tmps.getD 51 undef = _ := h51
              have f51 := getD_form e51
              clear h43 h51
              go_simp; exact left_intro rfl (Stp.refl _) trivial
            refine ⟨?_, ?_⟩
            · rintro L a1 w1 hT - - ⟨h52, -⟩   -- 11: Op.move t52
              have e52 : a1.tmps.getD 52 undef = _ := h52
              have f52 := getD_form e52
              clear h52
              go_simp; exact left_intro rfl (Stp.refl _) trivial
            refine ⟨?_, ?_⟩
            · rintro L a1 w1 hT - - ⟨h6, h53, -⟩   -- 12: Op.load 61 t6
              have e6 : a1.tmps.getD 6 undef = _ := h6
              have f6 := getD_form e6
              have e53 : a1.tmps.getD 53 undef = _ := h53
              have f53 := getD_form e53
              clear h6 h53
              refine ⟨true, 53, by rfl, e53, ?_⟩; rw [if_pos rfl]
              exact wp_load_blkL 61 (.tmp 6) rfl _ e6 (cs := leafC k u i) B0 hT _ Try.underlying61 (by rfl) hz0 (left_intro rfl (Stp.refl _) trivial)
            refine ⟨?_, ?_⟩
            · rintro L a1 w1 hT - - ⟨h7, h53, -⟩   -- 13: Op.load 61 t7
              have e7 : a1.tmps.getD 7 undef = _ := h7
              have f7 := getD_form e7
              have e53 : a1.tmps.getD 53 undef = _ := h53
              have f53 := getD_form e53
              clear h7 h53
              refine ⟨true, 53, by rfl, e53, ?_⟩; rw [if_pos rfl]
              exact wp_load_blkL 61 (.tmp 7) rfl _ e7 (cs := leafC l v j) B1 hT _ Try.underlying61 (by rfl) hz1 (left_intro rfl (Stp.refl _) trivial)
            refine ⟨?_, ?_⟩
            · rintro L a1 w1 hT - - ⟨h54, h55, h53, -⟩   -- 14: Op.binOp BinOp.neq 61 t54 t55 61
              have e54 : a1.tmps.getD 54 undef = _ := h54
              have f54 := getD_form e54
              have e55 : a1.tmps.getD 55 undef = _ := h55
              have f55 := getD_form e55
              have e53 : a1.tmps.getD 53 undef = _ := h53
              have f53 := getD_form e53
              clear h54 h55 h53
              refine ⟨true, 53, by rfl, e53, ?_⟩; rw [if_pos rfl]
              exact wp_bin .neq 61 61 (.tmp 54) (.tmp 55) rfl _ _ e54 e55 guard61 _ (hnq0.out _) (left_intro rfl (Stp.refl _) trivial)
            refine ⟨?_, ?_⟩
            · rintro L a1 w1 hT - - ⟨h56, h53, -⟩   -- 15: Op.move t56
              have e56 : a1.tmps.getD 56 undef = _ := h56
              have f56 := getD_form e56
              have e53 : a1.tmps.getD 53 undef = _ := h53
              have f53 := getD_form e53
              clear h56 h53
              refine ⟨true, 53, by rfl, e53, ?_⟩; rw [if_pos rfl]
              go_simp; exact left_intro rfl (Stp.refl _) trivial
            refine ⟨?_, ?_⟩
            · rintro L a1 w1 hT - - ⟨h6, h57, -⟩   -- 16: Op.load 61 t6
              have e6 : a1.tmps.getD 6 undef = _ := h6
              have f6 := getD_form e6
              have e57 : a1.tmps.getD 57 undef = _ := h57
              have f57 := getD_form e57
              clear h6 h57
              refine ⟨true, 57, by rfl, e57, ?_⟩; rw [if_neg (by decide)]
              exact left_intro rfl (Stp.refl _) trivial
            refine ⟨?_, ?_⟩
            · rintro L a1 w1 hT - - ⟨h58, h57, -⟩   -- 17: Op.call { value (Operand.func 53), args := #[t58], argTypes := #[61] }
              have e58 : a1.tmps.getD 58 undef = _ := h58
              have f58 := getD_form e58
              have e57 : a1.tmps.getD 57 undef = _ := h57
              have f57 := getD_form e57
              clear h58 h57
              refine ⟨true, 57, by rfl, e57, ?_⟩; rw [if_neg (by decide)]
              exact left_intro rfl (Stp.refl _) trivial
            refine ⟨?_, ?_⟩
            · rintro L a1 w1 hT - - ⟨h7, h57, -⟩   -- 18: Op.load 61 t7
              have e7 : a1.tmps.getD 7 undef = _ := h7
              have f7 := getD_form e7
              have e57 : a1.tmps.getD 57 undef = _ := h57
              have f57 := getD_form e57
              clear h7 h57
              refine ⟨true, 57, by rfl, e57, ?_⟩; rw [if_neg (by decide)]
              exact left_intro rfl (Stp.refl _) trivial
            refine ⟨?_, ?_⟩
            · rintro L a1 w1 hT - - ⟨h60, h57, -⟩   -- 19: Op.call { value (Operand.func 53), args := #[t60], argTypes := #[61] }
              have e60 : a1.tmps.getD 60 undef = _ := h60
              have f60 := getD_form e60
              have e57 : a1.tmps.getD 57 undef = _ := h57
              have f57 := getD_form e57
              clear h60 h57
              refine ⟨true, 57, by rfl, e57, ?_⟩; rw [if_neg (by decide)]
              exact left_intro rfl (Stp.refl _) trivial
            refine ⟨?_, ?_⟩
            · rintro L a1 w1 hT - - ⟨h59, h61, h57, -⟩   -- 20: Op.binOp BinOp.eql 65 t59 t61 65
              have e59 : a1.tmps.getD 59 undef = _ := h59
              have f59 := getD_form e59
              have e61 : a1.tmps.getD 61 undef = _ := h61
              have f61 := getD_form e61
              have e57 : a1.tmps.getD 57 undef = _ := h57
              have f57 := getD_form e57
              clear h59 h61 h57
              refine ⟨true, 57, by rfl, e57, ?_⟩; rw [if_neg (by decide)]
              exact left_intro rfl (Stp.refl _) trivial
            refine ⟨?_, ?_⟩
            · rintro L a1 w1 hT - - ⟨h57, h62, h53, -⟩   -- 21: Op.pick t57 (const (Value.bool true)) t62
              have e57 : a1.tmps.getD 57 undef = _ := h57
              have f57 := getD_form e57
              have e62 : a1.tmps.getD 62 undef = _ := h62
              have f62 := getD_form e62
              have e53 : a1.tmps.getD 53 undef = _ := h53
              have f53 := getD_form e53
              clear h57 h62 h53
              refine ⟨true, 53, by rfl, e53, ?_⟩; rw [if_pos rfl]
              go_simp; exact left_intro rfl (Stp.refl _) trivial
            refine ⟨?_, ?_⟩
            · rintro L a1 w1 hT - - ⟨h53, h63, -⟩   -- 22: Op.pick t53 t63 (const (Value.bool false))
              have e53 : a1.tmps.getD 53 undef = _ := h53
              have f53 := getD_form e53
              have e63 : a1.tmps.getD 63 undef = _ := h63
              have f63 := getD_form e63
              clear h53 h63
              go_simp; exact left_intro rfl (Stp.refl _) trivial
            refine ⟨?_, ?_⟩
            · rintro L a1 w1 hT - - ⟨h64, -⟩   -- 23: Op.assign t64
              have e64 : a1.tmps.getD 64 undef = _ := h64
              have f64 := getD_form e64
              clear h64
              go_simp; exact left_intro rfl (Stp.refl _) trivial
            trivial
          case hmono => repeat (first | exact trivial | refine ⟨fun _ _ _ _ h => h, ?_⟩)
          case hend =>
            intro w2 hT
            rintro _ rfl _ rfl _ rfl _ rfl _ rfl _ rfl _ rfl _ rfl _ rfl _ rfl _ rfl _ rfl _ rfl _ rfl _ rfl _ rfl _ rfl _ rfl _ rfl _ rfl _ rfl _ rfl _ rfl _ rfl
            simp only [relEnd, Act.put, List.setIfInBounds_toArray, List.set_cons_succ, List.set_cons_zero]
            replace B0 := B0.at_ hT
            replace B1 := B1.at_ hT
            replace B2 := B2.at_ hT
            replace B3 := B3.at_ hT
            replace B4 := B4.at_ hT
            replace B5 := B5.at_ hT
            replace hB := hB.trans (Below.mono hT hB.size)
            clear hT
            go_wp2
            go_ret
            exact ⟨rfl, hB⟩
      · cases E2
        · have hd : (IT1 == IT2) = false := by rw [hx1, Bool.and_false]
          clear hx1
          apply wp_region_rel_below [[(8, none)], [(22, some 0)], [(9, none)], [(24, some 2)], [(23, some 1), (25, some 3)], [(10, none)], [(27, some 5)], [(11, none)], [(29, some 7)], [(28, some 6), (30, some 8)], [(26, some 4), (31, some 9)], [(8, none)], [(10, none)], [(33, some 11), (34, some 12)], [(35, some 13)], [(9, none), (36, some 14)], [(11, none), (36, some 14)], [(37, some 15), (38, some 16), (36, some 14)], [(36, some 14), (39, some 17)], [(32, some 10), (40, some 18)]] [eqv _, eqv _, eqv _, eqv _, eqv _, eqv _, eqv _, eqv _, eqv _, eqv _, eqv _, eqv _, eqv _, eqv _, eqv _, eqv _, eqv _, eqv _, eqv _, eqv _] (by kernel_rfl) (by kernel_rfl)
          case hobs =>
            refine ⟨?_, ?_⟩
            · rintro L a1 w1 hT - - ⟨h8, -⟩   -- 0: Op.load 65 t8
              have e8 : a1.tmps.getD 8 undef = _ := h8
              have f8 := getD_form e8
              clear h8
              exact wp_load_blkL 65 (.tmp 8) rfl _ e8 (cs := itemC n0 p0 s0 t0) B2 hT _ Try.underlying65 (by rfl) hz2 (left_intro rfl (Stp.refl _) trivial)
            refine ⟨?_, ?_⟩
            · rintro L a1 w1 hT - - ⟨h22, -⟩   -- 1: Op.call { value (Operand.func 46), args := #[t22], argTypes := #[65] }
              have e22 : a1.tmps.getD 22 undef = _ := h22
              have f22 := getD_form e22
              clear h22
              go_simp; go_at_call 46; (with_reducible refine (T0.out _).mono ?_); rintro e w2 ⟨rfl, hb⟩; exact left_intro rfl (Stp.of hb) trivial
            refine ⟨?_, ?_⟩
            · rintro L a1 w1 hT - - ⟨h9, -⟩   -- 2: Op.load 65 t9
              have e9 : a1.tmps.getD 9 undef = _ := h9
              have f9 := getD_form e9
              clear h9
              exact wp_load_blkL 65 (.tmp 9) rfl _ e9 (cs := itemC n1 p1 s1 t1) B3 hT _ Try.underlying65 (by rfl) hz3 (left_intro rfl (Stp.refl _) trivial)
            refine ⟨?_, ?_⟩
            · rintro L a1 w1 hT - - ⟨h24, -⟩   -- 3: Op.call { value (Operand.func 46), args := #[t24], argTypes := #[65] }
              have e24 : a1.tmps.getD 24 undef = _ := h24
              have f24 := getD_form e24
              clear h24
              go_simp; go_at_call 46; (with_reducible refine (T1.out _).mono ?_); rintro e w2 ⟨rfl, hb⟩; exact left_intro rfl (Stp.of hb) trivial
            refine ⟨?_, ?_⟩
            · rintro L a1 w1 hT - - ⟨h23, h25, -⟩   -- 4: Op.call { value (Operand.func 52), args := #[t23, t25], argTypes := #[72, 72] }
              have e23 : a1.tmps.getD 23 undef = _ := h23
              have f23 := getD_form e23
              have e25 : a1.tmps.getD 25 undef = _ := h25
              have f25 := getD_form e25
              clear h23 h25
              go_simp; go_at_call 52; (with_reducible refine (I01.out _).mono ?_); rintro e w2 ⟨rfl, hb⟩; exact left_intro rfl (Stp.of hb) trivial
            refine ⟨?_, ?_⟩
            · rintro L a1 w1 hT - - ⟨h10, -⟩   -- 5: Op.load 65 t10
              have e10 : a1.tmps.getD 10 undef = _ := h10
              have f10 := getD_form e10
              clear h10
              exact wp_load_blkL 65 (.tmp 10) rfl _ e10 (cs := itemC n2 p2 s2 t2) B4 hT _ Try.underlying65 (by rfl) hz4 (left_intro rfl (Stp.refl _) trivial)
            refine ⟨?_, ?_⟩
            · rintro L a1 w1 hT - - ⟨h27, -⟩   -- 6: Op.call { value (Operand.func 46), args := #[t27], argTypes := #[65] }
              have e27 : a1.tmps.getD 27 undef = _ := h27
              have f27 := getD_form e27
              clear h27
              go_simp; go_at_call 46; (with_reducible refine (T2.out _).mono ?_); rintro e w2 ⟨rfl, hb⟩; exact left_intro rfl (Stp.of hb) trivial
            refine ⟨?_, ?_⟩
            · rintro L a1 w1 hT - - ⟨h11, -⟩   -- 7: Op.load 65 t11
              have e11 : a1.tmps.getD 11 undef = _ := h11
              have f11 := getD_form e11
              clear h11
              exact wp_load_blkL 65 (.tmp 11) rfl _ e11 (cs := itemC n3 p3 s3 t3) B5 hT _ Try.underlying65 (by rfl) hz5 (left_intro rfl (Stp.refl _) trivial)
            refine ⟨?_, ?_⟩
            · rintro L a1 w1 hT - - ⟨h29, -⟩   -- 8: Op.call { value (Operand.func 46), args := #[t29], argTypes := #[65] }
              have e29 : a1.tmps.getD 29 undef = _ := h29
              have f29 := getD_form e29
              clear h29
              go_simp; go_at_call 46; (with_reducible refine (T3.out _).mono ?_); rintro e w2 ⟨rfl, hb⟩; exact left_intro rfl (Stp.of hb) trivial
            refine ⟨?_, ?_⟩
            · rintro L a1 w1 hT - - ⟨h28, h30, -⟩   -- 9: Op.call { value (Operand.func 52), args := #[t28, t30], argTypes := #[72, 72] }
              have e28 : a1.tmps.getD 28 undef = _ := h28
              have f28 := getD_form e28
              have e30 : a1.tmps.getD 30 undef = _ := h30
              have f30 := getD_form e30
              clear h28 h30
              go_simp; go_at_call 52; (with_reducible refine (I23.out _).mono ?_); rintro e w2 ⟨rfl, hb⟩; exact left_intro rfl (Stp.of hb) trivial
            refine ⟨?_, ?_⟩
            · rintro L a1 w1 hT - - ⟨h26, h31, -⟩   -- 10: Op.binOp BinOp.eql 9 t26 t31 9
              have e26 : a1.tmps.getD 26 undef = _ := h26
              have f26 := getD_form e26
              have e31 : a1.tmps.getD 31 undef = _ := h31
              have f31 := getD_form e31
              clear h26 h31
              go_simp; exact left_intro rfl (Stp.refl _) trivial
            refine ⟨?_, ?_⟩
            · rintro L a1 w1 hT - - ⟨h8, -⟩   -- 11: Op.load 65 t8
              have e8 : a1.tmps.getD 8 undef = _ := h8
              have f8 := getD_form e8
              clear h8
              exact wp_load_blkL 65 (.tmp 8) rfl _ e8 (cs := itemC n0 p0 s0 t0) B2 hT _ Try.underlying65 (by rfl) hz2 (left_intro rfl (Stp.refl _) trivial)
            refine ⟨?_, ?_⟩
            · rintro L a1 w1 hT - - ⟨h10, -⟩   -- 12: Op.load 65 t10
              have e10 : a1.tmps.getD 10 undef = _ := h10
              have f10 := getD_form e10
              clear h10
              exact wp_load_blkL 65 (.tmp 10) rfl _ e10 (cs := itemC n2 p2 s2 t2) B4 hT _ Try.underlying65 (by rfl) hz4 (left_intro rfl (Stp.refl _) trivial)
            refine ⟨?_, ?_⟩
            · rintro L a1 w1 hT - - ⟨h33, h34, -⟩   -- 13: Op.binOp BinOp.eql 65 t33 t34 65
              have e33 : a1.tmps.getD 33 undef = _ := h33
              have f33 := getD_form e33
              have e34 : a1.tmps.getD 34 undef = _ := h34
              have f34 := getD_form e34
              clear h33 h34
              exact wp_bin .eql 65 65 (.tmp 33) (.tmp 34) rfl _ _ e33 e34 guard65 _ (hq1.out _) (left_intro rfl (Stp.refl _) trivial)
            refine ⟨?_, ?_⟩
            · rintro L a1 w1 hT - - ⟨h35, -⟩   -- 14: Op.move t35
              have e35 : a1.tmps.getD 35 undef = _ := h35
              have f35 := getD_form e35
              clear h35
              go_simp; exact left_intro rfl (Stp.refl _) trivial
            refine ⟨?_, ?_⟩
            · rintro L a1 w1 hT - - ⟨h9, h36, -⟩   -- 15: Op.load 65 t9
              have e9 : a1.tmps.getD 9 undef = _ := h9
              have f9 := getD_form e9
              have e36 : a1.tmps.getD 36 undef = _ := h36
              have f36 := getD_form e36
              clear h9 h36
              refine ⟨true, 36, by rfl, e36, ?_⟩; rw [if_pos rfl]
              exact wp_load_blkL 65 (.tmp 9) rfl _ e9 (cs := itemC n1 p1 s1 t1) B3 hT _ Try.underlying65 (by rfl) hz3 (left_intro rfl (Stp.refl _) trivial)
            refine ⟨?_, ?_⟩
            · rintro L a1 w1 hT - - ⟨h11, h36, -⟩   -- 16: Op.load 65 t11
              have e11 : a1.tmps.getD 11 undef = _ := h11
              have f11 := getD_form e11
              have e36 : a1.tmps.getD 36 undef = _ := h36
              have f36 := getD_form e36
              clear h11 h36
              refine ⟨true, 36, by rfl, e36, ?_⟩; rw [if_pos rfl]
              exact wp_load_blkL 65 (.tmp 11) rfl _ e11 (cs := itemC n3 p3 s3 t3) B5 hT _ Try.underlying65 (by rfl) hz5 (left_intro rfl (Stp.refl _) trivial)
            refine ⟨?_, ?_⟩
            · rintro L a1 w1 hT - - ⟨h37, h38, h36, -⟩   -- 17: Op.binOp BinOp.eql 65 t37 t38 65
              have e37 : a1.tmps.getD 37 undef = _ := h37
              have f37 := getD_form e37
              have e38 : a1.tmps.getD 38 undef = _ := h38
              have f38 := getD_form e38
              have e36 : a1.tmps.getD 36 undef = _ := h36
              have f36 := getD_form e36
              clear h37 h38 h36
              refine ⟨true, 36, by rfl, e36, ?_⟩; rw [if_pos rfl]
              exact wp_bin .eql 65 65 (.tmp 37) (.tmp 38) rfl _ _ e37 e38 guard65 _ (hq2.out _) (left_intro rfl (Stp.refl _) trivial)
            refine ⟨?_, ?_⟩
            · rintro L a1 w1 hT - - ⟨h36, h39, -⟩   -- 18: Op.pick t36 t39 (const (Value.bool false))
              have e36 : a1.tmps.getD 36 undef = _ := h36
              have f36 := getD_form e36
              have e39 : a1.tmps.getD 39 undef = _ := h39
              have f39 := getD_form e39
              clear h36 h39
              go_simp; exact left_intro rfl (Stp.refl _) trivial
            refine ⟨?_, ?_⟩
            · rintro L a1 w1 hT - - ⟨h32, h40, -⟩   -- 19: Op.binOp BinOp.neq 4 t32 t40 4
              have e32 : a1.tmps.getD 32 undef = _ := h32
              have f32 := getD_form e32
              have e40 : a1.tmps.getD 40 undef = _ := h40
              have f40 := getD_form e40
              clear h32 h40
              go_simp; exact left_intro rfl (Stp.refl _) trivial
            trivial
          case hmono => repeat (first | exact trivial | refine ⟨fun _ _ _ _ h => h, ?_⟩)
          case hend =>
            intro w2 hT
            rintro _ rfl _ rfl _ rfl _ rfl _ rfl _ rfl _ rfl _ rfl _ rfl _ rfl _ rfl _ rfl _ rfl _ rfl _ rfl _ rfl _ rfl _ rfl _ rfl _ rfl
            simp only [relEnd, Act.put, List.setIfInBounds_toArray, List.set_cons_succ, List.set_cons_zero]
            replace B0 := B0.at_ hT
            replace B1 := B1.at_ hT
            replace B2 := B2.at_ hT
            replace B3 := B3.at_ hT
            replace B4 := B4.at_ hT
            replace B5 := B5.at_ hT
            replace hB := hB.trans (Below.mono hT hB.size)
            clear hT
            go_wp2
            apply wp_region_rel_below [[], [(42, some 0)], [(6, none), (43, some 1)], [(44, some 2), (43, some 1)], [(8, none), (43, some 1)], [(46, some 4), (43, some 1)], [(9, none), (43, some 1)], [(48, some 6), (43, some 1)], [(47, some 5), (49, some 7), (43, some 1)], [(45, some 3), (50, some 8), (43, some 1)], [(43, some 1), (51, some 9)], [(52, some 10)], [(6, none), (53, some 11)], [(7, none), (53, some 11)], [(54, some 12), (55, some 13), (53, some 11)], [(56, some 14), (53, some 11)], [(6, none), (57, some 15)], [(58, some 16), (57, some 15)], [(7, none), (57, some 15)], [(60, some 18), (57, some 15)], [(59, some 17), (61, some 19), (57, some 15)], [(57, some 15), (62, some 20), (53, some 11)], [(53, some 11), (63, some 21)], [(64, some 22)]] [eqv _, eqv _, eqv _, eqv _, eqv _, eqv _, eqv _, eqv _, eqv _, eqv _, eqv _, eqv _, eqv _, eqv _, eqv _, eqv _, eqv _, eqv _, eqv _, eqv _, eqv _, eqv _, eqv _, eqv _] (by kernel_rfl) (by kernel_rfl)
            case hobs =>
              refine ⟨?_, ?_⟩
              · rintro L a1 w1 hT - - -   -- 0: Op.call { value (Operand.func 47), args := #[], argTypes := #[] }
                go_simp; go_at_call 47; (with_reducible refine (AA.out _).mono ?_); rintro e w2 ⟨rfl, hb⟩; exact left_intro rfl (Stp.of hb) trivial
              refine ⟨?_, ?_⟩
              · rintro L a1 w1 hT - - ⟨h42, -⟩   -- 1: Op.move t42
                have e42 : a1.tmps.getD 42 undef = _ := h42
                have f42 := getD_form e42
                clear h42
                go_simp; exact left_intro rfl (Stp.refl _) trivial
              refine ⟨?_, ?_⟩
              · rintro L a1 w1 hT - - ⟨h6, h43, -⟩   -- 2: Op.load 61 t6
                have e6 : a1.tmps.getD 6 undef = _ := h6
                have f6 := getD_form e6
                have e43 : a1.tmps.getD 43 undef = _ := h43
                have f43 := getD_form e43
                clear h6 h43
                refine ⟨true, 43, by rfl, e43, ?_⟩; rw [if_pos rfl]
                exact wp_load_blkL 61 (.tmp 6) rfl _ e6 (cs := leafC k u i) B0 hT _ Try.underlying61 (by rfl) hz0 (left_intro rfl (Stp.refl _) trivial)
              refine ⟨?_, ?_⟩
              · rintro L a1 w1 hT - - ⟨h44, h43, -⟩   -- 3: Op.call { value (Operand.func 51), args := #[t44], argTypes := #[77] }
                have e44 : a1.tmps.getD 44 undef = _ := h44
                have f44 := getD_form e44
                have e43 : a1.tmps.getD 43 undef = _ := h43
                have f43 := getD_form e43
                clear h44 h43
                refine ⟨true, 43, by rfl, e43, ?_⟩; rw [if_pos rfl]
                go_simp; go_at_call 51; (with_reducible refine (LK.out _).mono ?_); rintro e w2 ⟨rfl, hb⟩; exact left_intro rfl (Stp.of hb) trivial
              refine ⟨?_, ?_⟩
              · rintro L a1 w1 hT - - ⟨h8, h43, -⟩   -- 4: Op.load 65 t8
                have e8 : a1.tmps.getD 8 undef = _ := h8
                have f8 := getD_form e8
                have e43 : a1.tmps.getD 43 undef = _ := h43
                have f43 := getD_form e43
                clear h8 h43
                refine ⟨true, 43, by rfl, e43, ?_⟩; rw [if_pos rfl]
                exact wp_load_blkL 65 (.tmp 8) rfl _ e8 (cs := itemC n0 p0 s0 t0) B2 hT _ Try.underlying65 (by rfl) hz2 (left_intro rfl (Stp.refl _) trivial)
              refine ⟨?_, ?_⟩
              · rintro L a1 w1 hT - - ⟨h46, h43, -⟩   -- 5: Op.call { value (Operand.func 46), args := #[t46], argTypes := #[65] }
                have e46 : a1.tmps.getD 46 undef = _ := h46
                have f46 := getD_form e46
                have e43 : a1.tmps.getD 43 undef = _ := h43
                have f43 := getD_form e43
                clear h46 h43
                refine ⟨true, 43, by rfl, e43, ?_⟩; rw [if_pos rfl]
                go_simp; go_at_call 46; (with_reducible refine (T0.out _).mono ?_); rintro e w2 ⟨rfl, hb⟩; exact left_intro rfl (Stp.of hb) trivial
              refine ⟨?_, ?_⟩
              · rintro L a1 w1 hT - - ⟨h9, h43, -⟩   -- 6: Op.load 65 t9
                have e9 : a1.tmps.getD 9 undef = _ := h9
                have f9 := getD_form e9
                have e43 : a1.tmps.getD 43 undef = _ := h43
                have f43 := getD_form e43
                clear h9 h43
                refine ⟨true, 43, by rfl, e43, ?_⟩; rw [if_pos rfl]
                exact wp_load_blkL 65 (.tmp 9) rfl _ e9 (cs := itemC n1 p1 s1 t1) B3 hT _ Try.underlying65 (by rfl) hz3 (left_intro rfl (Stp.refl _) trivial)
              refine ⟨?_, ?_⟩
              · rintro L a1 w1 hT - - ⟨h48, h43, -⟩   -- 7: Op.call { value (Operand.func 46), args := #[t48], argTypes := #[65] }
                have e48 : a1.tmps.getD 48 undef = _ := h48
                have f48 := getD_form e48
                have e43 : a1.tmps.getD 43 undef = _ := h43
                have f43 := getD_form e43
                clear h48 h43
                refine ⟨true, 43, by rfl, e43, ?_⟩; rw [if_pos rfl]
                go_simp; go_at_call 46; (with_reducible refine (T1.out _).mono ?_); rintro e w2 ⟨rfl, hb⟩; exact left_intro rfl (Stp.of hb) trivial
              refine ⟨?_, ?_⟩
              · rintro L a1 w1 hT - - ⟨h47, h49, h43, -⟩   -- 8: Op.call { value (Operand.func 52), args := #[t47, t49], argTypes := #[72, 72] }
                have e47 : a1.tmps.getD 47 undef = _ := h47
                have f47 := getD_form e47
                have e49 : a1.tmps.getD 49 undef = _ := h49
                have f49 := getD_form e49
                have e43 : a1.tmps.getD 43 undef = _ := h43
                have f43 := getD_form e43
                clear h47 h49 h43
                refine ⟨true, 43, by rfl, e43, ?_⟩; rw [if_pos rfl]
                go_simp; go_at_call 52; (with_reducible refine (I01.out _).mono ?_); rintro e w2 ⟨rfl, hb⟩; exact left_intro rfl (Stp.of hb) trivial
              refine ⟨?_, ?_⟩
              · rintro L a1 w1 hT - - ⟨h45, h50, h43, -⟩   -- 9: Op.binOp BinOp.neq 9 t45 t50 9
                have e45 : a1.tmps.getD 45 undef = _ := h45
                have f45 := getD_form e45
                have e50 : a1.tmps.getD 50 undef = _ := h50
                have f50 := getD_form e50
                have e43 : a1.tmps.getD 43 undef = _ := h43
                have f43 := getD_form e43
                clear h45 h50 h43
                refine ⟨true, 43, by rfl, e43, ?_⟩; rw [if_pos rfl]
                go_simp; exact left_intro rfl (Stp.refl _) trivial
              refine ⟨?_, ?_⟩
              · rintro L a1 w1 hT - - ⟨h43, h51, -⟩   -- 10: Op.pick t43 t51 (const (Value.bool false))
                have e43 : a1.tmps.getD 43 undef = _ := h43
                have f43 := getD_form e43
                have e51 : a1.tmps.getD 51 undef = _ := h51
                have f51 := getD_form e51
                clear h43 h51
                go_simp; exact left_intro rfl (Stp.refl _) trivial
              refine ⟨?_, ?_⟩
              · rintro L a1 w1 hT - - ⟨h52, -⟩   -- 11: Op.move t52
                have e52 : a1.tmps.getD 52 undef = _ := h52
                have f52 := getD_form e52
                clear h52
                go_simp; exact left_intro rfl (Stp.refl _) trivial
              refine ⟨?_, ?_⟩
              · rintro L a1 w1 hT - - ⟨h6, h53, -⟩   -- 12: Op.load 61 t6
                have e6 : a1.tmps.getD 6 undef = _ := h6
                have f6 := getD_form e6
                have e53 : a1.tmps.getD 53 undef = _ := h53
                have f53 := getD_form e53
                clear h6 h53
                refine ⟨true, 53, by rfl, e53, ?_⟩; rw [if_pos rfl]
                exact wp_load_blkL 61 (.tmp 6) rfl _ e6 (cs := leafC k u i) B0 hT _ Try.underlying61 (by rfl) hz0 (left_intro rfl (Stp.refl _) trivial)
              refine ⟨?_, ?_⟩
              · rintro L a1 w1 hT - - ⟨h7, h53, -⟩   -- 13: Op.load 61 t7
                have e7 : a1.tmps.getD 7 undef = _ := h7
                have f7 := getD_form e7
                have e53 : a1.tmps.getD 53 undef = _ := h53
                have f53 := getD_form e53
                clear h7 h53
                refine ⟨true, 53, by rfl, e53, ?_⟩; rw [if_pos rfl]
                exact wp_load_blkL 61 (.tmp 7) rfl _ e7 (cs := leafC l v j) B1 hT _ Try.underlying61 (by rfl) hz1 (left_intro rfl (Stp.refl _) trivial)
              refine ⟨?_, ?_⟩
              · rintro L a1 w1 hT - - ⟨h54, h55, h53, -⟩   -- 14: Op.binOp BinOp.neq 61 t54 t55 61
                have e54 : a1.tmps.getD 54 undef = _ := h54
                have f54 := getD_form e54
                have e55 : a1.tmps.getD 55 undef = _ := h55
                have f55 := getD_form e55
                have e53 : a1.tmps.getD 53 undef = _ := h53
                have f53 := getD_form e53
                clear h54 h55 h53
                refine ⟨true, 53, by rfl, e53, ?_⟩; rw [if_pos rfl]
                exact wp_bin .neq 61 61 (.tmp 54) (.tmp 55) rfl _ _ e54 e55 guard61 _ (hnq0.out _) (left_intro rfl (Stp.refl _) trivial)
              refine ⟨?_, ?_⟩
              · rintro L a1 w1 hT - - ⟨h56, h53, -⟩   -- 15: Op.move t56
                have e56 : a1.tmps.getD 56 undef = _ := h56
                have f56 := getD_form e56
                have e53 : a1.tmps.getD 53 undef = _ := h53
                have f53 := getD_form e53
                clear h56 h53
                refine ⟨true, 53, by rfl, e53, ?_⟩; rw [if_pos rfl]
                go_simp; exact left_intro rfl (Stp.refl _) trivial
              refine ⟨?_, ?_⟩
              · rintro L a1 w1 hT - - ⟨h6, h57, -⟩   -- 16: Op.load 61 t6
                have e6 : a1.tmps.getD 6 undef = _ := h6
                have f6 := getD_form e6
                have e57 : a1.tmps.getD 57 undef = _ := h57
                have f57 := getD_form e57
                clear h6 h57
                refine ⟨true, 57, by rfl, e57, ?_⟩; rw [if_neg (by decide)]
                exact left_intro rfl (Stp.refl _) trivial
              refine ⟨?_, ?_⟩
              · rintro L a1 w1 hT - - ⟨h58, h57, -⟩   -- 17: Op.call { value (Operand.func 53), args := #[t58], argTypes := #[61] }
                have e58 : a1.tmps.getD 58 undef = _ := h58
                have f58 := getD_form e58
                have e57 : a1.tmps.getD 57 undef = _ := h57
                have f57 := getD_form e57
                clear h58 h57
                refine ⟨true, 57, by rfl, e57, ?_⟩; rw [if_neg (by decide)]
                exact left_intro rfl (Stp.refl _) trivial
              refine ⟨?_, ?_⟩
              · rintro L a1 w1 hT - - ⟨h7, h57, -⟩   -- 18: Op.load 61 t7
                have e7 : a1.tmps.getD 7 undef = _ := h7
                have f7 := getD_form e7
                have e57 : a1.tmps.getD 57 undef = _ := h57
                have f57 := getD_form e57
                clear h7 h57
                refine ⟨true, 57, by rfl, e57, ?_⟩; rw [if_neg (by decide)]
                exact left_intro rfl (Stp.refl _) trivial
              refine ⟨?_, ?_⟩
              · rintro L a1 w1 hT - - ⟨h60, h57, -⟩   -- 19: Op.call { value (Operand.func 53), args := #[t60], argTypes := #[61] }
                have e60 : a1.tmps.getD 60 undef = _ := h60
                have f60 := getD_form e60
                have e57 : a1.tmps.getD 57 undef = _ := h57
                have f57 := getD_form e57
                clear h60 h57
                refine ⟨true, 57, by rfl, e57, ?_⟩; rw [if_neg (by decide)]
                exact left_intro rfl (Stp.refl _) trivial
              refine ⟨?_, ?_⟩
              · rintro L a1 w1 hT - - ⟨h59, h61, h57, -⟩   -- 20: Op.binOp BinOp.eql 65 t59 t61 65
                have e59 : a1.tmps.getD 59 undef = _ := h59
                have f59 := getD_form e59
                have e61 : a1.tmps.getD 61 undef = _ := h61
                have f61 := getD_form e61
                have e57 : a1.tmps.getD 57 undef = _ := h57
                have f57 := getD_form e57
                clear h59 h61 h57
                refine ⟨true, 57, by rfl, e57, ?_⟩; rw [if_neg (by decide)]
                exact left_intro rfl (Stp.refl _) trivial
              refine ⟨?_, ?_⟩
              · rintro L a1 w1 hT - - ⟨h57, h62, h53, -⟩   -- 21: Op.pick t57 (const (Value.bool true)) t62
                have e57 : a1.tmps.getD 57 undef = _ := h57
                have f57 := getD_form e57
                have e62 : a1.tmps.getD 62 undef = _ := h62
                have f62 := getD_form e62
                have e53 : a1.tmps.getD 53 undef = _ := h53
                have f53 := getD_form e53
                clear h57 h62 h53
                refine ⟨true, 53, by rfl, e53, ?_⟩; rw [if_pos rfl]
                go_simp; exact left_intro rfl (Stp.refl _) trivial
              refine ⟨?_, ?_⟩
              · rintro L a1 w1 hT - - ⟨h53, h63, -⟩   -- 22: Op.pick t53 t63 (const (Value.bool false))
                have e53 : a1.tmps.getD 53 undef = _ := h53
                have f53 := getD_form e53
                have e63 : a1.tmps.getD 63 undef = _ := h63
                have f63 := getD_form e63
                clear h53 h63
                go_simp; exact left_intro rfl (Stp.refl _) trivial
              refine ⟨?_, ?_⟩
              · rintro L a1 w1 hT - - ⟨h64, -⟩   -- 23: Op.assign t64
                have e64 : a1.tmps.getD 64 undef = _ := h64
                have f64 := getD_form e64
                clear h64
                go_simp; exact left_intro rfl (Stp.refl _) trivial
              trivial
            case hmono => repeat (first | exact trivial | refine ⟨fun _ _ _ _ h => h, ?_⟩)
            case hend =>
              intro w2 hT
              rintro _ rfl _ rfl _ rfl _ rfl _ rfl _ rfl _ rfl _ rfl _ rfl _ rfl _ rfl _ rfl _ rfl _ rfl _ rfl _ rfl _ rfl _ rfl _ rfl _ rfl _ rfl _ rfl _ rfl _ rfl
              simp only [relEnd, Act.put, List.setIfInBounds_toArray, List.set_cons_succ, List.set_cons_zero]
              replace B0 := B0.at_ hT
              replace B1 := B1.at_ hT
              replace B2 := B2.at_ hT
              replace B3 := B3.at_ hT
              replace B4 := B4.at_ hT
              replace B5 := B5.at_ hT
              replace hB := hB.trans (Below.mono hT hB.size)
              clear hT
              go_wp2
              go_ret
              exact ⟨rfl, hB⟩
        · have hd : (IT1 == IT2) = true := by rw [hx1, Bool.and_true]
          clear hx1
          apply wp_region_rel_below [[(8, none)], [(22, some 0)], [(9, none)], [(24, some 2)], [(23, some 1), (25, some 3)], [(10, none)], [(27, some 5)], [(11, none)], [(29, some 7)], [(28, some 6), (30, some 8)], [(26, some 4), (31, some 9)], [(8, none)], [(10, none)], [(33, some 11), (34, some 12)], [(35, some 13)], [(9, none), (36, some 14)], [(11, none), (36, some 14)], [(37, some 15), (38, some 16), (36, some 14)], [(36, some 14), (39, some 17)], [(32, some 10), (40, some 18)]] [eqv _, eqv _, eqv _, eqv _, eqv _, eqv _, eqv _, eqv _, eqv _, eqv _, eqv _, eqv _, eqv _, eqv _, eqv _, eqv _, eqv _, eqv _, eqv _, eqv _] (by kernel_rfl) (by kernel_rfl)
          case hobs =>
            refine ⟨?_, ?_⟩
            · rintro L a1 w1 hT - - ⟨h8, -⟩   -- 0: Op.load 65 t8
              have e8 : a1.tmps.getD 8 undef = _ := h8
              have f8 := getD_form e8
              clear h8
              exact wp_load_blkL 65 (.tmp 8) rfl _ e8 (cs := itemC n0 p0 s0 t0) B2 hT _ Try.underlying65 (by rfl) hz2 (left_intro rfl (Stp.refl _) trivial)
            refine ⟨?_, ?_⟩
            · rintro L a1 w1 hT - - ⟨h22, -⟩   -- 1: Op.call { value (Operand.func 46), args := #[t22], argTypes := #[65] }
              have e22 : a1.tmps.getD 22 undef = _ := h22
              have f22 := getD_form e22
              clear h22
              go_simp; go_at_call 46; (with_reducible refine (T0.out _).mono ?_); rintro e w2 ⟨rfl, hb⟩; exact left_intro rfl (Stp.of hb) trivial
            refine ⟨?_, ?_⟩
            · rintro L a1 w1 hT - - ⟨h9, -⟩   -- 2: Op.load 65 t9
              have e9 : a1.tmps.getD 9 undef = _ := h9
              have f9 := getD_form e9
              clear h9
              exact wp_load_blkL 65 (.tmp 9) rfl _ e9 (cs := itemC n1 p1 s1 t1) B3 hT _ Try.underlying65 (by rfl) hz3 (left_intro rfl (Stp.refl _) trivial)
            refine ⟨?_, ?_⟩
            · rintro L a1 w1 hT - - ⟨h24, -⟩   -- 3: Op.call { value (Operand.func 46), args := #[t24], argTypes := #[65] }
              have e24 : a1.tmps.getD 24 undef = _ := h24
              have f24 := getD_form e24
              clear h24
              go_simp; go_at_call 46; (with_reducible refine (T1.out _).mono ?_); rintro e w2 ⟨rfl, hb⟩; exact left_intro rfl (Stp.of hb) trivial
            refine ⟨?_, ?_⟩
            · rintro L a1 w1 hT - - ⟨h23, h25, -⟩   -- 4: Op.call { value (Operand.func 52), args := #[t23, t25], argTypes := #[72, 72] }
              have e23 : a1.tmps.getD 23 undef = _ := h23
              have f23 := getD_form e23
              have e25 : a1.tmps.getD 25 undef = _ := h25
              have f25 := getD_form e25
              clear h23 h25
              go_simp; go_at_call 52; (with_reducible refine (I01.out _).mono ?_); rintro e w2 ⟨rfl, hb⟩; exact left_intro rfl (Stp.of hb) trivial
            refine ⟨?_, ?_⟩
            · rintro L a1 w1 hT - - ⟨h10, -⟩   -- 5: Op.load 65 t10
              have e10 : a1.tmps.getD 10 undef = _ := h10
              have f10 := getD_form e10
              clear h10
              exact wp_load_blkL 65 (.tmp 10) rfl _ e10 (cs := itemC n2 p2 s2 t2) B4 hT _ Try.underlying65 (by rfl) hz4 (left_intro rfl (Stp.refl _) trivial)
            refine ⟨?_, ?_⟩
            · rintro L a1 w1 hT - - ⟨h27, -⟩   -- 6: Op.call { value (Operand.func 46), args := #[t27], argTypes := #[65] }
              have e27 : a1.tmps.getD 27 undef = _ := h27
              have f27 := getD_form e27
              clear h27
              go_simp; go_at_call 46; (with_reducible refine (T2.out _).mono ?_); rintro e w2 ⟨rfl, hb⟩; exact left_intro rfl (Stp.of hb) trivial
            refine ⟨?_, ?_⟩
            · rintro L a1 w1 hT - - ⟨h11, -⟩   -- 7: Op.load 65 t11
              have e11 : a1.tmps.getD 11 undef = _ := h11
              have f11 := getD_form e11
              clear h11
              exact wp_load_blkL 65 (.tmp 11) rfl _ e11 (cs := itemC n3 p3 s3 t3) B5 hT _ Try.underlying65 (by rfl) hz5 (left_intro rfl (Stp.refl _) trivial)
            refine ⟨?_, ?_⟩
            · rintro L a1 w1 hT - - ⟨h29, -⟩   -- 8: Op.call { value (Operand.func 46), args := #[t29], argTypes := #[65] }
              have e29 : a1.tmps.getD 29 undef = _ := h29
              have f29 := getD_form e29
              clear h29
              go_simp; go_at_call 46; (with_reducible refine (T3.out _).mono ?_); rintro e w2 ⟨rfl, hb⟩; exact left_intro rfl (Stp.of hb) trivial
            refine ⟨?_, ?_⟩
            · rintro L a1 w1 hT - - ⟨h28, h30, -⟩   -- 9: Op.call { value (Operand.func 52), args := #[t28, t30], argTypes := #[72, 72] }
              have e28 : a1.tmps.getD 28 undef = _ := h28
              have f28 := getD_form e28
              have e30 : a1.tmps.getD 30 undef = _ := h30
              have f30 := getD_form e30
              clear h28 h30
              go_simp; go_at_call 52; (with_reducible refine (I23.out _).mono ?_); rintro e w2 ⟨rfl, hb⟩; exact left_intro rfl (Stp.of hb) trivial
            refine ⟨?_, ?_⟩
            · rintro L a1 w1 hT - - ⟨h26, h31, -⟩   -- 10: Op.binOp BinOp.eql 9 t26 t31 9
              have e26 : a1.tmps.getD 26 undef = _ := h26
              have f26 := getD_form e26
              have e31 : a1.tmps.getD 31 undef = _ := h31
              have f31 := getD_form e31
              clear h26 h31
              go_simp; exact left_intro rfl (Stp.refl _) trivial
            refine ⟨?_, ?_⟩
            · rintro L a1 w1 hT - - ⟨h8, -⟩   -- 11: Op.load 65 t8
              have e8 : a1.tmps.getD 8 undef = _ := h8
              have f8 := getD_form e8
              clear h8
              exact wp_load_blkL 65 (.tmp 8) rfl _ e8 (cs := itemC n0 p0 s0 t0) B2 hT _ Try.underlying65 (by rfl) hz2 (left_intro rfl (Stp.refl _) trivial)
            refine ⟨?_, ?_⟩
            · rintro L a1 w1 hT - - ⟨h10, -⟩   -- 12: Op.load 65 t10
              have e10 : a1.tmps.getD 10 undef = _ := h10
              have f10 := getD_form e10
              clear h10
              exact wp_load_blkL 65 (.tmp 10) rfl _ e10 (cs := itemC n2 p2 s2 t2) B4 hT _ Try.underlying65 (by rfl) hz4 (left_intro rfl (Stp.refl _) trivial)
            refine ⟨?_, ?_⟩
            · rintro L a1 w1 hT - - ⟨h33, h34, -⟩   -- 13: Op.binOp BinOp.eql 65 t33 t34 65
              have e33 : a1.tmps.getD 33 undef = _ := h33
              have f33 := getD_form e33
              have e34 : a1.tmps.getD 34 undef = _ := h34
              have f34 := getD_form e34
              clear h33 h34
              exact wp_bin .eql 65 65 (.tmp 33) (.tmp 34) rfl _ _ e33 e34 guard65 _ (hq1.out _) (left_intro rfl (Stp.refl _) trivial)
            refine ⟨?_, ?_⟩
            · rintro L a1 w1 hT - - ⟨h35, -⟩   -- 14: Op.move t35
              have e35 : a1.tmps.getD 35 undef = _ := h35
              have f35 := getD_form e35
              clear h35
              go_simp; exact left_intro rfl (Stp.refl _) trivial
            refine ⟨?_, ?_⟩
            · rintro L a1 w1 hT - - ⟨h9, h36, -⟩   -- 15: Op.load 65 t9
              have e9 : a1.tmps.getD 9 undef = _ := h9
              have f9 := getD_form e9
              have e36 : a1.tmps.getD 36 undef = _ := h36
              have f36 := getD_form e36
              clear h9 h36
              refine ⟨true, 36, by rfl, e36, ?_⟩; rw [if_pos rfl]
              exact wp_load_blkL 65 (.tmp 9) rfl _ e9 (cs := itemC n1 p1 s1 t1) B3 hT _ Try.underlying65 (by rfl) hz3 (left_intro rfl (Stp.refl _) trivial)
            refine ⟨?_, ?_⟩
            · rintro L a1 w1 hT - - ⟨h11, h36, -⟩   -- 16: Op.load 65 t11
              have e11 : a1.tmps.getD 11 undef = _ := h11
              have f11 := getD_form e11
              have e36 : a1.tmps.getD 36 undef = _ := h36
              have f36 := getD_form e36
              clear h11 h36
              refine ⟨true, 36, by rfl, e36, ?_⟩; rw [if_pos rfl]
              exact wp_load_blkL 65 (.tmp 11) rfl _ e11 (cs := itemC n3 p3 s3 t3) B5 hT _ Try.underlying65 (by rfl) hz5 (left_intro rfl (Stp.refl _) trivial)
            refine ⟨?_, ?_⟩
            · rintro L a1 w1 hT - - ⟨h37, h38, h36, -⟩   -- 17: Op.binOp BinOp.eql 65 t37 t38 65
              have e37 : a1.tmps.getD 37 undef = _ := h37
              have f37 := getD_form e37
              have e38 : a1.tmps.getD 38 undef = _ := h38
              have f38 := getD_form e38
              have e36 : a1.tmps.getD 36 undef = _ := h36
              have f36 := getD_form e36
              clear h37 h38 h36
              refine ⟨true, 36, by rfl, e36, ?_⟩; rw [if_pos rfl]
              exact wp_bin .eql 65 65 (.tmp 37) (.tmp 38) rfl _ _ e37 e38 guard65 _ (hq2.out _) (left_intro rfl (Stp.refl _) trivial)
            refine ⟨?_, ?_⟩
            · rintro L a1 w1 hT - - ⟨h36, h39, -⟩   -- 18: Op.pick t36 t39 (const (Value.bool false))
              have e36 : a1.tmps.getD 36 undef = _ := h36
              have f36 := getD_form e36
              have e39 : a1.tmps.getD 39 undef = _ := h39
              have f39 := getD_form e39
              clear h36 h39
              go_simp; exact left_intro rfl (Stp.refl _) trivial
            refine ⟨?_, ?_⟩
            · rintro L a1 w1 hT - - ⟨h32, h40, -⟩   -- 19: Op.binOp BinOp.neq 4 t32 t40 4
              have e32 : a1.tmps.getD 32 undef = _ := h32
              have f32 := getD_form e32
              have e40 : a1.tmps.getD 40 undef = _ := h40
              have f40 := getD_form e40
              clear h32 h40
              go_simp; exact left_intro rfl (Stp.refl _) trivial
            trivial
          case hmono => repeat (first | exact trivial | refine ⟨fun _ _ _ _ h => h, ?_⟩)
          case hend =>
            intro w2 hT
            rintro _ rfl _ rfl _ rfl _ rfl _ rfl _ rfl _ rfl _ rfl _ rfl _ rfl _ rfl _ rfl _ rfl _ rfl _ rfl _ rfl _ rfl _ rfl _ rfl _ rfl
            simp only [relEnd, Act.put, List.setIfInBounds_toArray, List.set_cons_succ, List.set_cons_zero]
            replace B0 := B0.at_ hT
            replace B1 := B1.at_ hT
            replace B2 := B2.at_ hT
            replace B3 := B3.at_ hT
            replace B4 := B4.at_ hT
            replace B5 := B5.at_ hT
            replace hB := hB.trans (Below.mono hT hB.size)
            clear hT
            go_wp2
            apply wp_region_rel_below [[], [(42, some 0)], [(6, none), (43, some 1)], [(44, some 2), (43, some 1)], [(8, none), (43, some 1)], [(46, some 4), (43, some 1)], [(9, none), (43, some 1)], [(48, some 6), (43, some 1)], [(47, some 5), (49, some 7), (43, some 1)], [(45, some 3), (50, some 8), (43, some 1)], [(43, some 1), (51, some 9)], [(52, some 10)], [(6, none), (53, some 11)], [(7, none), (53, some 11)], [(54, some 12), (55, some 13), (53, some 11)], [(56, some 14), (53, some 11)], [(6, none), (57, some 15)], [(58, some 16), (57, some 15)], [(7, none), (57, some 15)], [(60, some 18), (57, some 15)], [(59, some 17), (61, some 19), (57, some 15)], [(57, some 15), (62, some 20), (53, some 11)], [(53, some 11), (63, some 21)], [(64, some 22)]] [eqv _, eqv _, eqv _, eqv _, eqv _, eqv _, eqv _, eqv _, eqv _, eqv _, eqv _, eqv _, eqv _, eqv _, eqv _, eqv _, eqv _, eqv _, eqv _, eqv _, eqv _, eqv _, eqv _, eqv _] (by kernel_rfl) (by kernel_rfl)
            case hobs =>
              refine ⟨?_, ?_⟩
              · rintro L a1 w1 hT - - -   -- 0: Op.call { value (Operand.func 47), args := #[], argTypes := #[] }
                go_simp; go_at_call 47; (with_reducible refine (AA.out _).mono ?_); rintro e w2 ⟨rfl, hb⟩; exact left_intro rfl (Stp.of hb) trivial
              refine ⟨?_, ?_⟩
              · rintro L a1 w1 hT - - ⟨h42, -⟩   -- 1: Op.move t42
                have e42 : a1.tmps.getD 42 undef = _ := h42
                have f42 := getD_form e42
                clear h42
                go_simp; exact left_intro rfl (Stp.refl _) trivial
              refine ⟨?_, ?_⟩
              · rintro L a1 w1 hT - - ⟨h6, h43, -⟩   -- 2: Op.load 61 t6
                have e6 : a1.tmps.getD 6 undef = _ := h6
                have f6 := getD_form e6
                have e43 : a1.tmps.getD 43 undef = _ := h43
                have f43 := getD_form e43
                clear h6 h43
                refine ⟨true, 43, by rfl, e43, ?_⟩; rw [if_pos rfl]
                exact wp_load_blkL 61 (.tmp 6) rfl _ e6 (cs := leafC k u i) B0 hT _ Try.underlying61 (by rfl) hz0 (left_intro rfl (Stp.refl _) trivial)
              refine ⟨?_, ?_⟩
              · rintro L a1 w1 hT - - ⟨h44, h43, -⟩   -- 3: Op.call { value (Operand.func 51), args := #[t44], argTypes := #[77] }
                have e44 : a1.tmps.getD 44 undef = _ := h44
                have f44 := getD_form e44
                have e43 : a1.tmps.getD 43 undef = _ := h43
                have f43 := getD_form e43
                clear h44 h43
                refine ⟨true, 43, by rfl, e43, ?_⟩; rw [if_pos rfl]
                go_simp; go_at_call 51; (with_reducible refine (LK.out _).mono ?_); rintro e w2 ⟨rfl, hb⟩; exact left_intro rfl (Stp.of hb) trivial
              refine ⟨?_, ?_⟩
              · rintro L a1 w1 hT - - ⟨h8, h43, -⟩   -- 4: Op.load 65 t8
                have e8 : a1.tmps.getD 8 undef = _ := h8
                have f8 := getD_form e8
                have e43 : a1.tmps.getD 43 undef = _ := h43
                have f43 := getD_form e43
                clear h8 h43
                refine ⟨true, 43, by rfl, e43, ?_⟩; rw [if_pos rfl]
                exact wp_load_blkL 65 (.tmp 8) rfl _ e8 (cs := itemC n0 p0 s0 t0) B2 hT _ Try.underlying65 (by rfl) hz2 (left_intro rfl (Stp.refl _) trivial)
              refine ⟨?_, ?_⟩
              · rintro L a1 w1 hT - - ⟨h46, h43, -⟩   -- 5: Op.call { value (Operand.func 46), args := #[t46], argTypes := #[65] }
                have e46 : a1.tmps.getD 46 undef = _ := h46
                have f46 := getD_form e46
                have e43 : a1.tmps.getD 43 undef = _ := h43
                have f43 := getD_form e43
                clear h46 h43
                refine ⟨true, 43, by rfl, e43, ?_⟩; rw [if_pos rfl]
                go_simp; go_at_call 46; (with_reducible refine (T0.out _).mono ?_); rintro e w2 ⟨rfl, hb⟩; exact left_intro rfl (Stp.of hb) trivial
              refine ⟨?_, ?_⟩
              · rintro L a1 w1 hT - - ⟨h9, h43, -⟩   -- 6: Op.load 65 t9
                have e9 : a1.tmps.getD 9 undef = _ := h9
                have f9 := getD_form e9
                have e43 : a1.tmps.getD 43 undef = _ := h43
                have f43 := getD_form e43
                clear h9 h43
                refine ⟨true, 43, by rfl, e43, ?_⟩; rw [if_pos rfl]
                exact wp_load_blkL 65 (.tmp 9) rfl _ e9 (cs := itemC n1 p1 s1 t1) B3 hT _ Try.underlying65 (by rfl) hz3 (left_intro rfl (Stp.refl _) trivial)
              refine ⟨?_, ?_⟩
              · rintro L a1 w1 hT - - ⟨h48, h43, -⟩   -- 7: Op.call { value (Operand.func 46), args := #[t48], argTypes := #[65] }
                have e48 : a1.tmps.getD 48 undef = _ := h48
                have f48 := getD_form e48
                have e43 : a1.tmps.getD 43 undef = _ := h43
                have f43 := getD_form e43
                clear h48 h43
                refine ⟨true, 43, by rfl, e43, ?_⟩; rw [if_pos rfl]
                go_simp; go_at_call 46; (with_reducible refine (T1.out _).mono ?_); rintro e w2 ⟨rfl, hb⟩; exact left_intro rfl (Stp.of hb) trivial
              refine ⟨?_, ?_⟩
              · rintro L a1 w1 hT - - ⟨h47, h49, h43, -⟩   -- 8: Op.call { value (Operand.func 52), args := #[t47, t49], argTypes := #[72, 72] }
                have e47 : a1.tmps.getD 47 undef = _ := h47
                have f47 := getD_form e47
                have e49 : a1.tmps.getD 49 undef = _ := h49
                have f49 := getD_form e49
                have e43 : a1.tmps.getD 43 undef = _ := h43
                have f43 := getD_form e43
                clear h47 h49 h43
                refine ⟨true, 43, by rfl, e43, ?_⟩; rw [if_pos rfl]
                go_simp; go_at_call 52; (with_reducible refine (I01.out _).mono ?_); rintro e w2 ⟨rfl, hb⟩; exact left_intro rfl (Stp.of hb) trivial
              refine ⟨?_, ?_⟩
              · rintro L a1 w1 hT - - ⟨h45, h50, h43, -⟩   -- 9: Op.binOp BinOp.neq 9 t45 t50 9
                have e45 : a1.tmps.getD 45 undef = _ := h45
                have f45 := getD_form e45
                have e50 : a1.tmps.getD 50 undef = _ := h50
                have f50 := getD_form e50
                have e43 : a1.tmps.getD 43 undef = _ := h43
                have f43 := getD_form e43
                clear h45 h50 h43
                refine ⟨true, 43, by rfl, e43, ?_⟩; rw [if_pos rfl]
                go_simp; exact left_intro rfl (Stp.refl _) trivial
              refine ⟨?_, ?_⟩
              · rintro L a1 w1 hT - - ⟨h43, h51, -⟩   -- 10: Op.pick t43 t51 (const (Value.bool false))
                have e43 : a1.tmps.getD 43 undef = _ := h43
                have f43 := getD_form e43
                have e51 : a1.tmps.getD 51 undef = _ := h51
                have f51 := getD_form e51
                clear h43 h51
                go_simp; exact left_intro rfl (Stp.refl _) trivial
              refine ⟨?_, ?_⟩
              · rintro L a1 w1 hT - - ⟨h52, -⟩   -- 11: Op.move t52
                have e52 : a1.tmps.getD 52 undef = _ := h52
                have f52 := getD_form e52
                clear h52
                go_simp; exact left_intro rfl (Stp.refl _) trivial
              refine ⟨?_, ?_⟩
              · rintro L a1 w1 hT - - ⟨h6, h53, -⟩   -- 12: Op.load 61 t6
                have e6 : a1.tmps.getD 6 undef = _ := h6
                have f6 := getD_form e6
                have e53 : a1.tmps.getD 53 undef = _ := h53
                have f53 := getD_form e53
                clear h6 h53
                refine ⟨true, 53, by rfl, e53, ?_⟩; rw [if_pos rfl]
                exact wp_load_blkL 61 (.tmp 6) rfl _ e6 (cs := leafC k u i) B0 hT _ Try.underlying61 (by rfl) hz0 (left_intro rfl (Stp.refl _) trivial)
              refine ⟨?_, ?_⟩
              · rintro L a1 w1 hT - - ⟨h7, h53, -⟩   -- 13: Op.load 61 t7
                have e7 : a1.tmps.getD 7 undef = _ := h7
                have f7 := getD_form e7
                have e53 : a1.tmps.getD 53 undef = _ := h53
                have f53 := getD_form e53
                clear h7 h53
                refine ⟨true, 53, by rfl, e53, ?_⟩; rw [if_pos rfl]
                exact wp_load_blkL 61 (.tmp 7) rfl _ e7 (cs := leafC l v j) B1 hT _ Try.underlying61 (by rfl) hz1 (left_intro rfl (Stp.refl _) trivial)
              refine ⟨?_, ?_⟩
              · rintro L a1 w1 hT - - ⟨h54, h55, h53, -⟩   -- 14: Op.binOp BinOp.neq 61 t54 t55 61
                have e54 : a1.tmps.getD 54 undef = _ := h54
                have f54 := getD_form e54
                have e55 : a1.tmps.getD 55 undef = _ := h55
                have f55 := getD_form e55
                have e53 : a1.tmps.getD 53 undef = _ := h53
                have f53 := getD_form e53
                clear h54 h55 h53
                refine ⟨true, 53, by rfl, e53, ?_⟩; rw [if_pos rfl]
                exact wp_bin .neq 61 61 (.tmp 54) (.tmp 55) rfl _ _ e54 e55 guard61 _ (hnq0.out _) (left_intro rfl (Stp.refl _) trivial)
              refine ⟨?_, ?_⟩
              · rintro L a1 w1 hT - - ⟨h56, h53, -⟩   -- 15: Op.move t56
                have e56 : a1.tmps.getD 56 undef = _ := h56
                have f56 := getD_form e56
                have e53 : a1.tmps.getD 53 undef = _ := h53
                have f53 := getD_form e53
                clear h56 h53
                refine ⟨true, 53, by rfl, e53, ?_⟩; rw [if_pos rfl]
                go_simp; exact left_intro rfl (Stp.refl _) trivial
              refine ⟨?_, ?_⟩
              · rintro L a1 w1 hT - - ⟨h6, h57, -⟩   -- 16: Op.load 61 t6
                have e6 : a1.tmps.getD 6 undef = _ := h6
                have f6 := getD_form e6
                have e57 : a1.tmps.getD 57 undef = _ := h57
                have f57 := getD_form e57
                clear h6 h57
                refine ⟨true, 57, by rfl, e57, ?_⟩; rw [if_neg (by decide)]
                exact left_intro rfl (Stp.refl _) trivial
              refine ⟨?_, ?_⟩
              · rintro L a1 w1 hT - - ⟨h58, h57, -⟩   -- 17: Op.call { value (Operand.func 53), args := #[t58], argTypes := #[61] }
                have e58 : a1.tmps.getD 58 undef = _ := h58
                have f58 := getD_form e58
                have e57 : a1.tmps.getD 57 undef = _ := h57
                have f57 := getD_form e57
                clear h58 h57
                refine ⟨true, 57, by rfl, e57, ?_⟩; rw [if_neg (by decide)]
                exact left_intro rfl (Stp.refl _) trivial
              refine ⟨?_, ?_⟩
              · rintro L a1 w1 hT - - ⟨h7, h57, -⟩   -- 18: Op.load 61 t7
                have e7 : a1.tmps.getD 7 undef = _ := h7
                have f7 := getD_form e7
                have e57 : a1.tmps.getD 57 undef = _ := h57
                have f57 := getD_form e57
                clear h7 h57
                refine ⟨true, 57, by rfl, e57, ?_⟩; rw [if_neg (by decide)]
                exact left_intro rfl (Stp.refl _) trivial
              refine ⟨?_, ?_⟩
              · rintro L a1 w1 hT - - ⟨h60, h57, -⟩   -- 19: Op.call { value (Operand.func 53), args := #[t60], argTypes := #[61] }
                have e60 : a1.tmps.getD 60 undef = _ := h60
                have f60 := getD_form e60
                have e57 : a1.tmps.getD 57 undef = _ := h57
                have f57 := getD_form e57
                clear h60 h57
                refine ⟨true, 57, by rfl, e57, ?_⟩; rw [if_neg (by decide)]
                exact left_intro rfl (Stp.refl _) trivial
              refine ⟨?_, ?_⟩
              · rintro L a1 w1 hT - - ⟨h59, h61, h57, -⟩   -- 20: Op.binOp BinOp.eql 65 t59 t61 65
                have e59 : a1.tmps.getD 59 undef = _ := h59
                have f59 := getD_form e59
                have e61 : a1.tmps.getD 61 undef = _ := h61
                have f61 := getD_form e61
                have e57 : a1.tmps.getD 57 undef = _ := h57
                have f57 := getD_form e57
                clear h59 h61 h57
                refine ⟨true, 57, by rfl, e57, ?_⟩; rw [if_neg (by decide)]
                exact left_intro rfl (Stp.refl _) trivial
              refine ⟨?_, ?_⟩
              · rintro L a1 w1 hT - - ⟨h57, h62, h53, -⟩   -- 21: Op.pick t57 (const (Value.bool true)) t62
                have e57 : a1.tmps.getD 57 undef = _ := h57
                have f57 := getD_form e57
                have e62 : a1.tmps.getD 62 undef = _ := h62
                have f62 := getD_form e62
                have e53 : a1.tmps.getD 53 undef = _ := h53
                have f53 := getD_form e53
                clear h57 h62 h53
                refine ⟨true, 53, by rfl, e53, ?_⟩; rw [if_pos rfl]
                go_simp; exact left_intro rfl (Stp.refl _) trivial
              refine ⟨?_, ?_⟩
              · rintro L a1 w1 hT - - ⟨h53, h63, -⟩   -- 22: Op.pick t53 t63 (const (Value.bool false))
                have e53 : a1.tmps.getD 53 undef = _ := h53
                have f53 := getD_form e53
                have e63 : a1.tmps.getD 63 undef = _ := h63
                have f63 := getD_form e63
                clear h53 h63
                go_simp; exact left_intro rfl (Stp.refl _) trivial
              refine ⟨?_, ?_⟩
              · rintro L a1 w1 hT - - ⟨h64, -⟩   -- 23: Op.assign t64
                have e64 : a1.tmps.getD 64 undef = _ := h64
                have f64 := getD_form e64
                clear h64
                go_simp; exact left_intro rfl (Stp.refl _) trivial
              trivial
            case hmono => repeat (first | exact trivial | refine ⟨fun _ _ _ _ h => h, ?_⟩)
            case hend =>
              intro w2 hT
              rintro _ rfl _ rfl _ rfl _ rfl _ rfl _ rfl _ rfl _ rfl _ rfl _ rfl _ rfl _ rfl _ rfl _ rfl _ rfl _ rfl _ rfl _ rfl _ rfl _ rfl _ rfl _ rfl _ rfl _ rfl
              simp only [relEnd, Act.put, List.setIfInBounds_toArray, List.set_cons_succ, List.set_cons_zero]
              replace B0 := B0.at_ hT
              replace B1 := B1.at_ hT
              replace B2 := B2.at_ hT
              replace B3 := B3.at_ hT
              replace B4 := B4.at_ hT
              replace B5 := B5.at_ hT
              replace hB := hB.trans (Below.mono hT hB.size)
              clear hT
              go_wp2
              go_ret
              exact ⟨rfl, hB⟩
  · have h0 : (LTk == LTl) = true := hx0
    clear hx0
    have hsq0 := Lib.hid (hsq rfl)
    clear hsq
    apply wp_region_rel_below [[(6, none)], [(13, some 0)], [(7, none)], [(15, some 2)], [(14, some 1), (16, some 3)], [(6, none)], [(7, none)], [(18, some 5), (19, some 6)], [(17, some 4), (20, some 7)]] [eqv _, eqv _, eqv _, eqv _, eqv _, eqv _, eqv _, eqv _, eqv _] (by kernel_rfl) (by kernel_rfl)
    case hobs =>
      refine ⟨?_, ?_⟩
      · rintro L a1 w1 hT - - ⟨h6, -⟩   -- 0: Op.load 61 t6
        have e6 : a1.tmps.getD 6 undef = _ := h6
        have f6 := getD_form e6
        clear h6
        exact wp_load_blkL 61 (.tmp 6) rfl _ e6 (cs := leafC k u i) B0 hT _ Try.underlying61 (by rfl) hz0 (left_intro rfl (Stp.refl _) trivial)
      refine ⟨?_, ?_⟩
      · rintro L a1 w1 hT - - ⟨h13, -⟩   -- 1: Op.call { value (Operand.func 51), args := #[t13], argTypes := #[77] }
        have e13 : a1.tmps.getD 13 undef = _ := h13
        have f13 := getD_form e13
        clear h13
        go_simp; go_at_call 51; (with_reducible refine (LK.out _).mono ?_); rintro e w2 ⟨rfl, hb⟩; exact left_intro rfl (Stp.of hb) trivial
      refine ⟨?_, ?_⟩
      · rintro L a1 w1 hT - - ⟨h7, -⟩   -- 2: Op.load 61 t7
        have e7 : a1.tmps.getD 7 undef = _ := h7
        have f7 := getD_form e7
        clear h7
        exact wp_load_blkL 61 (.tmp 7) rfl _ e7 (cs := leafC l v j) B1 hT _ Try.underlying61 (by rfl) hz1 (left_intro rfl (Stp.refl _) trivial)
      refine ⟨?_, ?_⟩
      · rintro L a1 w1 hT - - ⟨h15, -⟩   -- 3: Op.call { value (Operand.func 51), args := #[t15], argTypes := #[77] }
        have e15 : a1.tmps.getD 15 undef = _ := h15
        have f15 := getD_form e15
        clear h15
        go_simp; go_at_call 51; (with_reducible refine (LL.out _).mono ?_); rintro e w2 ⟨rfl, hb⟩; exact left_intro rfl (Stp.of hb) trivial
      refine ⟨?_, ?_⟩
      · rintro L a1 w1 hT - - ⟨h14, h16, -⟩   -- 4: Op.binOp BinOp.eql 9 t14 t16 9
        have e14 : a1.tmps.getD 14 undef = _ := h14
        have f14 := getD_form e14
        have e16 : a1.tmps.getD 16 undef = _ := h16
        have f16 := getD_form e16
        clear h14 h16
        go_simp; exact left_intro rfl (Stp.refl _) trivial
      refine ⟨?_, ?_⟩
      · rintro L a1 w1 hT - - ⟨h6, -⟩   -- 5: Op.load 61 t6
        have e6 : a1.tmps.getD 6 undef = _ := h6
        have f6 := getD_form e6
        clear h6
        exact wp_load_blkL 61 (.tmp 6) rfl _ e6 (cs := leafC k u i) B0 hT _ Try.underlying61 (by rfl) hz0 (left_intro rfl (Stp.refl _) trivial)
      refine ⟨?_, ?_⟩
      · rintro L a1 w1 hT - - ⟨h7, -⟩   -- 6: Op.load 61 t7
        have e7 : a1.tmps.getD 7 undef = _ := h7
        have f7 := getD_form e7
        clear h7
        exact wp_load_blkL 61 (.tmp 7) rfl _ e7 (cs := leafC l v j) B1 hT _ Try.underlying61 (by rfl) hz1 (left_intro rfl (Stp.refl _) trivial)
      refine ⟨?_, ?_⟩
      · rintro L a1 w1 hT - - ⟨h18, h19, -⟩   -- 7: Op.binOp BinOp.eql 61 t18 t19 61
        have e18 : a1.tmps.getD 18 undef = _ := h18
        have f18 := getD_form e18
        have e19 : a1.tmps.getD 19 undef = _ := h19
        have f19 := getD_form e19
        clear h18 h19
        exact wp_bin .eql 61 61 (.tmp 18) (.tmp 19) rfl _ _ e18 e19 guard61 _ (hq0.out _) (left_intro rfl (Stp.refl _) trivial)
      refine ⟨?_, ?_⟩
      · rintro L a1 w1 hT - - ⟨h17, h20, -⟩   -- 8: Op.binOp BinOp.neq 4 t17 t20 4
        have e17 : a1.tmps.getD 17 undef = _ := h17
        have f17 := getD_form e17
        have e20 : a1.tmps.getD 20 undef = _ := h20
        have f20 := getD_form e20
        clear h17 h20
        go_simp; exact left_intro rfl (Stp.refl _) trivial
      trivial
    case hmono => repeat (first | exact trivial | refine ⟨fun _ _ _ _ h => h, ?_⟩)
    case hend =>
      intro w2 hT
      rintro _ rfl _ rfl _ rfl _ rfl _ rfl _ rfl _ rfl _ rfl _ rfl
      simp only [relEnd, Act.put, List.setIfInBounds_toArray, List.set_cons_succ, List.set_cons_zero]
      replace B0 := B0.at_ hT
      replace B1 := B1.at_ hT
      replace B2 := B2.at_ hT
      replace B3 := B3.at_ hT
      replace B4 := B4.at_ hT
      replace B5 := B5.at_ hT
      replace hB := hB.trans (Below.mono hT hB.size)
      clear hT
      go_wp2
      cases E1
      · have hd : (IT1 == IT2) = false := by rw [hx1, Bool.false_and]
        clear hx1
        apply wp_region_rel_below [[(8, none)], [(22, some 0)], [(9, none)], [(24, some 2)], [(23, some 1), (25, some 3)], [(10, none)], [(27, some 5)], [(11, none)], [(29, some 7)], [(28, some 6), (30, some 8)], [(26, some 4), (31, some 9)], [(8, none)], [(10, none)], [(33, some 11), (34, some 12)], [(35, some 13)], [(9, none), (36, some 14)], [(11, none), (36, some 14)], [(37, some 15), (38, some 16), (36, some 14)], [(36, some 14), (39, some 17)], [(32, some 10), (40, some 18)]] [eqv _, eqv _, eqv _, eqv _, eqv _, eqv _, eqv _, eqv _, eqv _, eqv _, eqv _, eqv _, eqv _, eqv _, eqv _, eqv _, eqv _, eqv _, eqv _, eqv _] (by kernel_rfl) (by kernel_rfl)
        case hobs =>
          refine ⟨?_, ?_⟩
          · rintro L a1 w1 hT - - ⟨h8, -⟩   -- 0: Op.load 65 t8
            have e8 : a1.tmps.getD 8 undef = _ := h8
            have f8 := getD_form e8
            clear h8
            exact wp_load_blkL 65 (.tmp 8) rfl _ e8 (cs := itemC n0 p0 s0 t0) B2 hT _ Try.underlying65 (by rfl) hz2 (left_intro rfl (Stp.refl _) trivial)
          refine ⟨?_, ?_⟩
          · rintro L a1 w1 hT - - ⟨h22, -⟩   -- 1: Op.call { value (Operand.func 46), args := #[t22], argTypes := #[65] }
            have e22 : a1.tmps.getD 22 undef = _ := h22
            have f22 := getD_form e22
            clear h22
            go_simp; go_at_call 46; (with_reducible refine (T0.out _).mono ?_); rintro e w2 ⟨rfl, hb⟩; exact left_intro rfl (Stp.of hb) trivial
          refine ⟨?_, ?_⟩
          · rintro L a1 w1 hT - - ⟨h9, -⟩   -- 2: Op.load 65 t9
            have e9 : a1.tmps.getD 9 undef = _ := h9
            have f9 := getD_form e9
            clear h9
            exact wp_load_blkL 65 (.tmp 9) rfl _ e9 (cs := itemC n1 p1 s1 t1) B3 hT _ Try.underlying65 (by rfl) hz3 (left_intro rfl (Stp.refl _) trivial)
          refine ⟨?_, ?_⟩
          · rintro L a1 w1 hT - - ⟨h24, -⟩   -- 3: Op.call { value (Operand.func 46), args := #[t24], argTypes := #[65] }
            have e24 : a1.tmps.getD 24 undef = _ := h24
            have f24 := getD_form e24
            clear h24
            go_simp; go_at_call 46; (with_reducible refine (T1.out _).mono ?_); rintro e w2 ⟨rfl, hb⟩; exact left_intro rfl (Stp.of hb) trivial
          refine ⟨?_, ?_⟩
          · rintro L a1 w1 hT - - ⟨h23, h25, -⟩   -- 4: Op.call { value (Operand.func 52), args := #[t23, t25], argTypes := #[72, 72] }
            have e23 : a1.tmps.getD 23 undef = _ := h23
            have f23 := getD_form e23
            have e25 : a1.tmps.getD 25 undef = _ := h25
            have f25 := getD_form e25
            clear h23 h25
            go_simp; go_at_call 52; (with_reducible refine (I01.out _).mono ?_); rintro e w2 ⟨rfl, hb⟩; exact left_intro rfl (Stp.of hb) trivial
          refine ⟨?_, ?_⟩
          · rintro L a1 w1 hT - - ⟨h10, -⟩   -- 5: Op.load 65 t10
            have e10 : a1.tmps.getD 10 undef = _ := h10
            have f10 := getD_form e10
            clear h10
            exact wp_load_blkL 65 (.tmp 10) rfl _ e10 (cs := itemC n2 p2 s2 t2) B4 hT _ Try.underlying65 (by rfl) hz4 (left_intro rfl (Stp.refl _) trivial)
          refine ⟨?_, ?_⟩
          · rintro L a1 w1 hT - - ⟨h27, -⟩   -- 6: Op.call { value (Operand.func 46), args := #[t27], argTypes := #[65] }
            have e27 : a1.tmps.getD 27 undef = _ := h27
            have f27 := getD_form e27
            clear h27
            go_simp; go_at_call 46; (with_reducible refine (T2.out _).mono ?_); rintro e w2 ⟨rfl, hb⟩; exact left_intro rfl (Stp.of hb) trivial
          refine ⟨?_, ?_⟩
          · rintro L a1 w1 hT - - ⟨h11, -⟩   -- 7: Op.load 65 t11
            have e11 : a1.tmps.getD 11 undef = _ := h11
            have f11 := getD_form e11
            clear h11
            exact wp_load_blkL 65 (.tmp 11) rfl _ e11 (cs := itemC n3 p3 s3 t3) B5 hT _ Try.underlying65 (by rfl) hz5 (left_intro rfl (Stp.refl _) trivial)
          refine ⟨?_, ?_⟩
          · rintro L a1 w1 hT - - ⟨h29, -⟩   -- 8: Op.call { value (Operand.func 46), args := #[t29], argTypes := #[65] }
            have e29 : a1.tmps.getD 29 undef = _ := h29
            have f29 := getD_form e29
            clear h29
            go_simp; go_at_call 46; (with_reducible refine (T3.out _).mono ?_); rintro e w2 ⟨rfl, hb⟩; exact left_intro rfl (Stp.of hb) trivial
          refine ⟨?_, ?_⟩
          · rintro L a1 w1 hT - - ⟨h28, h30, -⟩   -- 9: Op.call { value (Operand.func 52), args := #[t28, t30], argTypes := #[72, 72] }
            have e28 : a1.tmps.getD 28 undef = _ := h28
            have f28 := getD_form e28
            have e30 : a1.tmps.getD 30 undef = _ := h30
            have f30 := getD_form e30
            clear h28 h30
            go_simp; go_at_call 52; (with_reducible refine (I23.out _).mono ?_); rintro e w2 ⟨rfl, hb⟩; exact left_intro rfl (Stp.of hb) trivial
          refine ⟨?_, ?_⟩
          · rintro L a1 w1 hT - - ⟨h26, h31, -⟩   -- 10: Op.binOp BinOp.eql 9 t26 t31 9
            have e26 : a1.tmps.getD 26 undef = _ := h26
            have f26 := getD_form e26
            have e31 : a1.tmps.getD 31 undef = _ := h31
            have f31 := getD_form e31
            clear h26 h31
            go_simp; exact left_intro rfl (Stp.refl _) trivial
          refine ⟨?_, ?_⟩
          · rintro L a1 w1 hT - - ⟨h8, -⟩   -- 11: Op.load 65 t8
            have e8 : a1.tmps.getD 8 undef = _ := h8
            have f8 := getD_form e8
            clear h8
            exact wp_load_blkL 65 (.tmp 8) rfl _ e8 (cs := itemC n0 p0 s0 t0) B2 hT _ Try.underlying65 (by rfl) hz2 (left_intro rfl (Stp.refl _) trivial)
          refine ⟨?_, ?_⟩
          · rintro L a1 w1 hT - - ⟨h10, -⟩   -- 12: Op.load 65 t10
            have e10 : a1.tmps.getD 10 undef = _ := h10
            have f10 := getD_form e10
            clear h10
            exact wp_load_blkL 65 (.tmp 10) rfl _ e10 (cs := itemC n2 p2 s2 t2) B4 hT _ Try.underlying65 (by rfl) hz4 (left_intro rfl (Stp.refl _) trivial)
          refine ⟨?_, ?_⟩
          · rintro L a1 w1 hT - - ⟨h33, h34, -⟩   -- 13: Op.binOp BinOp.eql 65 t33 t34 65
            have e33 : a1.tmps.getD 33 undef = _ := h33
            have f33 := getD_form e33
            have e34 : a1.tmps.getD 34 undef = _ := h34
            have f34 := getD_form e34
            clear h33 h34
            exact wp_bin .eql 65 65 (.tmp 33) (.tmp 34) rfl _ _ e33 e34 guard65 _ (hq1.out _) (left_intro rfl (Stp.refl _) trivial)
          refine ⟨?_, ?_⟩
          · rintro L a1 w1 hT - - ⟨h35, -⟩   -- 14: Op.move t35
            have e35 : a1.tmps.getD 35 undef = _ := h35
            have f35 := getD_form e35
            clear h35
            go_simp; exact left_intro rfl (Stp.refl _) trivial
          refine ⟨?_, ?_⟩
          · rintro L a1 w1 hT - - ⟨h9, h36, -⟩   -- 15: Op.load 65 t9
            have e9 : a1.tmps.getD 9 undef = _ := h9
            have f9 := getD_form e9
            have e36 : a1.tmps.getD 36 undef = _ := h36
            have f36 := getD_form e36
            clear h9 h36
            refine ⟨false, 36, by rfl, e36, ?_⟩; rw [if_neg (by decide)]
            exact left_intro rfl (Stp.refl _) trivial
          refine ⟨?_, ?_⟩
          · rintro L a1 w1 hT - - ⟨h11, h36, -⟩   -- 16: Op.load 65 t11
            have e11 : a1.tmps.getD 11 undef = _ := h11
            have f11 := getD_form e11
            have e36 : a1.tmps.getD 36 undef = _ := h36
            have f36 := getD_form e36
            clear h11 h36
            refine ⟨false, 36, by rfl, e36, ?_⟩; rw [if_neg (by decide)]
            exact left_intro rfl (Stp.refl _) trivial
          refine ⟨?_, ?_⟩
          · rintro L a1 w1 hT - - ⟨h37, h38, h36, -⟩   -- 17: Op.binOp BinOp.eql 65 t37 t38 65
            have e37 : a1.tmps.getD 37 undef = _ := h37
            have f37 := getD_form e37
            have e38 : a1.tmps.getD 38 undef = _ := h38
            have f38 := getD_form e38
            have e36 : a1.tmps.getD 36 undef = _ := h36
            have f36 := getD_form e36
            clear h37 h38 h36
            refine ⟨false, 36, by rfl, e36, ?_⟩; rw [if_neg (by decide)]
            exact left_intro rfl (Stp.refl _) trivial
          refine ⟨?_, ?_⟩
          · rintro L a1 w1 hT - - ⟨h36, h39, -⟩   -- 18: Op.pick t36 t39 (const (Value.bool false))
            have e36 : a1.tmps.getD 36 undef = _ := h36
            have f36 := getD_form e36
            have e39 : a1.tmps.getD 39 undef = _ := h39
            have f39 := getD_form e39
            clear h36 h39
            go_simp; exact left_intro rfl (Stp.refl _) trivial
          refine ⟨?_, ?_⟩
          · rintro L a1 w1 hT - - ⟨h32, h40, -⟩   -- 19: Op.binOp BinOp.neq 4 t32 t40 4
            have e32 : a1.tmps.getD 32 undef = _ := h32
            have f32 := getD_form e32
            have e40 : a1.tmps.getD 40 undef = _ := h40
            have f40 := getD_form e40
            clear h32 h40
            go_simp; exact left_intro rfl (Stp.refl _) trivial
          trivial
        case hmono => repeat (first | exact trivial | refine ⟨fun _ _ _ _ h => h, ?_⟩)
        case hend =>
          intro w2 hT
          rintro _ rfl _ rfl _ rfl _ rfl _ rfl _ rfl _ rfl _ rfl _ rfl _ rfl _ rfl _ rfl _ rfl _ rfl _ rfl _ rfl _ rfl _ rfl _ rfl _ rfl
          simp only [relEnd, Act.put, List.setIfInBounds_toArray, List.set_cons_succ, List.set_cons_zero]
          replace B0 := B0.at_ hT
          replace B1 := B1.at_ hT
          replace B2 := B2.at_ hT
          replace B3 := B3.at_ hT
          replace B4 := B4.at_ hT
          replace B5 := B5.at_ hT
          replace hB := hB.trans (Below.mono hT hB.size)
          clear hT
          go_wp2
          apply wp_region_rel_below [[], [(42, some 0)], [(6, none), (43, some 1)], [(44, some 2), (43, some 1)], [(8, none), (43, some 1)], [(46, some 4), (43, some 1)], [(9, none), (43, some 1)], [(48, some 6), (43, some 1)], [(47, some 5), (49, some 7), (43, some 1)], [(45, some 3), (50, some 8), (43, some 1)], [(43, some 1), (51, some 9)], [(52, some 10)], [(6, none), (53, some 11)], [(7, none), (53, some 11)], [(54, some 12), (55, some 13), (53, some 11)], [(56, some 14), (53, some 11)], [(6, none), (57, some 15)], [(58, some 16), (57, some 15)], [(7, none), (57, some 15)], [(60, some 18), (57, some 15)], [(59, some 17), (61, some 19), (57, some 15)], [(57, some 15), (62, some 20), (53, some 11)], [(53, some 11), (63, some 21)], [(64, some 22)]] [eqv _, eqv _, eqv _, eqv _, eqv _, eqv _, eqv _, eqv _, eqv _, eqv _, eqv _, eqv _, eqv _, eqv _, eqv _, eqv _, eqv _, eqv _, eqv _, eqv _, eqv _, eqv _, eqv _, eqv _] (by kernel_rfl) (by kernel_rfl)
          case hobs =>
            refine ⟨?_, ?_⟩
            · rintro L a1 w1 hT - - -   -- 0: Op.call { value (Operand.func 47), args := #[], argTypes := #[] }
              go_simp; go_at_call 47; (with_reducible refine (AA.out _).mono ?_); rintro e w2 ⟨rfl, hb⟩; exact left_intro rfl (Stp.of hb) trivial
            refine ⟨?_, ?_⟩
            · rintro L a1 w1 hT - - ⟨h42, -⟩   -- 1: Op.move t42
              have e42 : a1.tmps.getD 42 undef = _ := h42
              have f42 := getD_form e42
              clear h42
              go_simp; exact left_intro rfl (Stp.refl _) trivial
            refine ⟨?_, ?_⟩
            · rintro L a1 w1 hT - - ⟨h6, h43, -⟩   -- 2: Op.load 61 t6
              have e6 : a1.tmps.getD 6 undef = _ := h6
              have f6 := getD_form e6
              have e43 : a1.tmps.getD 43 undef = _ := h43
              have f43 := getD_form e43
              clear h6 h43
              refine ⟨true, 43, by rfl, e43, ?_⟩; rw [if_pos rfl]
              exact wp_load_blkL 61 (.tmp 6) rfl _ e6 (cs := leafC k u i) B0 hT _ Try.underlying61 (by rfl) hz0 (left_intro rfl (Stp.refl _) trivial)
            refine ⟨?_, ?_⟩
            · rintro L a1 w1 hT - - ⟨h44, h43, -⟩   -- 3: Op.call { value (Operand.func 51), args := #[t44], argTypes := #[77] }
              have e44 : a1.tmps.getD 44 undef = _ := h44
              have f44 := getD_form e44
              have e43 : a1.tmps.getD 43 undef = _ := h43
              have f43 := getD_form e43
              clear h44 h43
              refine ⟨true, 43, by rfl, e43, ?_⟩; rw [if_pos rfl]
              go_simp; go_at_call 51; (with_reducible refine (LK.out _).mono ?_); rintro e w2 ⟨rfl, hb⟩; exact left_intro rfl (Stp.of hb) trivial
            refine ⟨?_, ?_⟩
            · rintro L a1 w1 hT - - ⟨h8, h43, -⟩   -- 4: Op.load 65 t8
              have e8 : a1.tmps.getD 8 undef = _ := h8
              have f8 := getD_form e8
              have e43 : a1.tmps.getD 43 undef = _ := h43
              have f43 := getD_form e43
              clear h8 h43
              refine ⟨true, 43, by rfl, e43, ?_⟩; rw [if_pos rfl]
              exact wp_load_blkL 65 (.tmp 8) rfl _ e8 (cs := itemC n0 p0 s0 t0) B2 hT _ Try.underlying65 (by rfl) hz2 (left_intro rfl (Stp.refl _) trivial)
            refine ⟨?_, ?_⟩
            · rintro L a1 w1 hT - - ⟨h46, h43, -⟩   -- 5: Op.call { value (Operand.func 46), args := #[t46], argTypes := #[65] }
              have e46 : a1.tmps.getD 46 undef = _ := h46
              have f46 := getD_form e46
              have e43 : a1.tmps.getD 43 undef = _ := h43
              have f43 := getD_form e43
              clear h46 h43
              refine ⟨true, 43, by rfl, e43, ?_⟩; rw [if_pos rfl]
              go_simp; go_at_call 46; (with_reducible refine (T0.out _).mono ?_); rintro e w2 ⟨rfl, hb⟩; exact left_intro rfl (Stp.of hb) trivial
            refine ⟨?_, ?_⟩
            · rintro L a1 w1 hT - - ⟨h9, h43, -⟩   -- 6: Op.load 65 t9
              have e9 : a1.tmps.getD 9 undef = _ := h9
              have f9 := getD_form e9
              have e43 : a1.tmps.getD 43 undef = _ := h43
              have f43 := getD_form e43
              clear h9 h43
              refine ⟨true, 43, by rfl, e43, ?_⟩; rw [if_pos rfl]
              exact wp_load_blkL 65 (.tmp 9) rfl _ e9 (cs := itemC n1 p1 s1 t1) B3 hT _ Try.underlying65 (by rfl) hz3 (left_intro rfl (Stp.refl _) trivial)
            refine ⟨?_, ?_⟩
            · rintro L a1 w1 hT - - ⟨h48, h43, -⟩   -- 7: Op.call { value (Operand.func 46), args := #[t48], argTypes := #[65] }
              have e48 : a1.tmps.getD 48 undef = _ := h48
              have f48 := getD_form e48
              have e43 : a1.tmps.getD 43 undef = _ := h43
              have f43 := getD_form e43
              clear h48 h43
              refine ⟨true, 43, by rfl, e43, ?_⟩; rw [if_pos rfl]
              go_simp; go_at_call 46; (with_reducible refine (T1.out _).mono ?_); rintro e w2 ⟨rfl, hb⟩; exact left_intro rfl (Stp.of hb) trivial
            refine ⟨?_, ?_⟩
            · rintro L a1 w1 hT - - ⟨h47, h49, h43, -⟩   -- 8: Op.call { value (Operand.func 52), args := #[t47, t49], argTypes := #[72, 72] }
              have e47 : a1.tmps.getD 47 undef = _ := h47
              have f47 := getD_form e47
              have e49 : a1.tmps.getD 49 undef = _ := h49
              have f49 := getD_form e49
              have e43 : a1.tmps.getD 43 undef = _ := h43
              have f43 := getD_form e43
              clear h47 h49 h43
              refine ⟨true, 43, by rfl, e43, ?_⟩; rw [if_pos rfl]
              go_simp; go_at_call 52; (with_reducible refine (I01.out _).mono ?_); rintro e w2 ⟨rfl, hb⟩; exact left_intro rfl (Stp.of hb) trivial
            refine ⟨?_, ?_⟩
            · rintro L a1 w1 hT - - ⟨h45, h50, h43, -⟩   -- 9: Op.binOp BinOp.neq 9 t45 t50 9
              have e45 : a1.tmps.getD 45 undef = _ := h45
              have f45 := getD_form e45
              have e50 : a1.tmps.getD 50 undef = _ := h50
              have f50 := getD_form e50
              have e43 : a1.tmps.getD 43 undef = _ := h43
              have f43 := getD_form e43
              clear h45 h50 h43
              refine ⟨true, 43, by rfl, e43, ?_⟩; rw [if_pos rfl]
              go_simp; exact left_intro rfl (Stp.refl _) trivial
            refine ⟨?_, ?_⟩
            · rintro L a1 w1 hT - - ⟨h43, h51, -⟩   -- 10: Op.pick t43 t51 (const (Value.bool false))
              have e43 : a1.tmps.getD 43 undef = _ := h43
              have f43 := getD_form e43
              have e51 : a1.tmps.getD 51 undef = _ := h51
              have f51 := getD_form e51
              clear h43 h51
              go_simp; exact left_intro rfl (Stp.refl _) trivial
            refine ⟨?_, ?_⟩
            · rintro L a1 w1 hT - - ⟨h52, -⟩   -- 11: Op.move t52
              have e52 : a1.tmps.getD 52 undef = _ := h52
              have f52 := getD_form e52
              clear h52
              go_simp; exact left_intro rfl (Stp.refl _) trivial
            refine ⟨?_, ?_⟩
            · rintro L a1 w1 hT - - ⟨h6, h53, -⟩   -- 12: Op.load 61 t6
              have e6 : a1.tmps.getD 6 undef = _ := h6
              have f6 := getD_form e6
              have e53 : a1.tmps.getD 53 undef = _ := h53
              have f53 := getD_form e53
              clear h6 h53
              refine ⟨true, 53, by rfl, e53, ?_⟩; rw [if_pos rfl]
              exact wp_load_blkL 61 (.tmp 6) rfl _ e6 (cs := leafC k u i) B0 hT _ Try.underlying61 (by rfl) hz0 (left_intro rfl (Stp.refl _) trivial)
            refine ⟨?_, ?_⟩
            · rintro L a1 w1 hT - - ⟨h7, h53, -⟩   -- 13: Op.load 61 t7
              have e7 : a1.tmps.getD 7 undef = _ := h7
              have f7 := getD_form e7
              have e53 : a1.tmps.getD 53 undef = _ := h53
              have f53 := getD_form e53
              clear h7 h53
              refine ⟨true, 53, by rfl, e53, ?_⟩; rw [if_pos rfl]
              exact wp_load_blkL 61 (.tmp 7) rfl _ e7 (cs := leafC l v j) B1 hT _ Try.underlying61 (by rfl) hz1 (left_intro rfl (Stp.refl _) trivial)
            refine ⟨?_, ?_⟩
            · rintro L a1 w1 hT - - ⟨h54, h55, h53, -⟩   -- 14: Op.binOp BinOp.neq 61 t54 t55 61
              have e54 : a1.tmps.getD 54 undef = _ := h54
              have f54 := getD_form e54
              have e55 : a1.tmps.getD 55 undef = _ := h55
              have f55 := getD_form e55
              have e53 : a1.tmps.getD 53 undef = _ := h53
              have f53 := getD_form e53
              clear h54 h55 h53
              refine ⟨true, 53, by rfl, e53, ?_⟩; rw [if_pos rfl]
              exact wp_bin .neq 61 61 (.tmp 54) (.tmp 55) rfl _ _ e54 e55 guard61 _ (hnq0.out _) (left_intro rfl (Stp.refl _) trivial)
            refine ⟨?_, ?_⟩
            · rintro L a1 w1 hT - - ⟨h56, h53, -⟩   -- 15: Op.move t56
              have e56 : a1.tmps.getD 56 undef = _ := h56
              have f56 := getD_form e56
              have e53 : a1.tmps.getD 53 undef = _ := h53
              have f53 := getD_form e53
              clear h56 h53
              refine ⟨true, 53, by rfl, e53, ?_⟩; rw [if_pos rfl]
              go_simp; exact left_intro rfl (Stp.refl _) trivial
            refine ⟨?_, ?_⟩
            · rintro L a1 w1 hT - - ⟨h6, h57, -⟩   -- 16: Op.load 61 t6
              have e6 : a1.tmps.getD 6 undef = _ := h6
              have f6 := getD_form e6
              have e57 : a1.tmps.getD 57 undef = _ := h57
              have f57 := getD_form e57
              clear h6 h57
              refine ⟨false, 57, by rfl, e57, ?_⟩; rw [if_pos rfl]
              exact wp_load_blkL 61 (.tmp 6) rfl _ e6 (cs := leafC k u i) B0 hT _ Try.underlying61 (by rfl) hz0 (left_intro rfl (Stp.refl _) trivial)
            refine ⟨?_, ?_⟩
            · rintro L a1 w1 hT - - ⟨h58, h57, -⟩   -- 17: Op.call { value (Operand.func 53), args := #[t58], argTypes := #[61] }
              have e58 : a1.tmps.getD 58 undef = _ := h58
              have f58 := getD_form e58
              have e57 : a1.tmps.getD 57 undef = _ := h57
              have f57 := getD_form e57
              clear h58 h57
              refine ⟨false, 57, by rfl, e57, ?_⟩; rw [if_pos rfl]
              go_simp; go_at_call 53; (with_reducible refine (IK.out _).mono ?_); rintro e w2 ⟨rfl, hb⟩; exact left_intro rfl (Stp.of hb) trivial
            refine ⟨?_, ?_⟩
            · rintro L a1 w1 hT - - ⟨h7, h57, -⟩   -- 18: Op.load 61 t7
              have e7 : a1.tmps.getD 7 undef = _ := h7
              have f7 := getD_form e7
              have e57 : a1.tmps.getD 57 undef = _ := h57
              have f57 := getD_form e57
              clear h7 h57
              refine ⟨false, 57, by rfl, e57, ?_⟩; rw [if_pos rfl]
              exact wp_load_blkL 61 (.tmp 7) rfl _ e7 (cs := leafC l v j) B1 hT _ Try.underlying61 (by rfl) hz1 (left_intro rfl (Stp.refl _) trivial)
            refine ⟨?_, ?_⟩
            · rintro L a1 w1 hT - - ⟨h60, h57, -⟩   -- 19: Op.call { value (Operand.func 53), args := #[t60], argTypes := #[61] }
              have e60 : a1.tmps.getD 60 undef = _ := h60
              have f60 := getD_form e60
              have e57 : a1.tmps.getD 57 undef = _ := h57
              have f57 := getD_form e57
              clear h60 h57
              refine ⟨false, 57, by rfl, e57, ?_⟩; rw [if_pos rfl]
              go_simp; go_at_call 53; (with_reducible refine (IL.out _).mono ?_); rintro e w2 ⟨rfl, hb⟩; exact left_intro rfl (Stp.of hb) trivial
            refine ⟨?_, ?_⟩
            · rintro L a1 w1 hT - - ⟨h59, h61, h57, -⟩   -- 20: Op.binOp BinOp.eql 65 t59 t61 65
              have e59 : a1.tmps.getD 59 undef = _ := h59
              have f59 := getD_form e59
              have e61 : a1.tmps.getD 61 undef = _ := h61
              have f61 := getD_form e61
              have e57 : a1.tmps.getD 57 undef = _ := h57
              have f57 := getD_form e57
              clear h59 h61 h57
              refine ⟨false, 57, by rfl, e57, ?_⟩; rw [if_pos rfl]
              exact wp_bin .eql 65 65 (.tmp 59) (.tmp 61) rfl _ _ e59 e61 guard65 _ (hsq0.out _) (left_intro rfl (Stp.refl _) trivial)
            refine ⟨?_, ?_⟩
            · rintro L a1 w1 hT - - ⟨h57, h62, h53, -⟩   -- 21: Op.pick t57 (const (Value.bool true)) t62
              have e57 : a1.tmps.getD 57 undef = _ := h57
              have f57 := getD_form e57
              have e62 : a1.tmps.getD 62 undef = _ := h62
              have f62 := getD_form e62
              have e53 : a1.tmps.getD 53 undef = _ := h53
              have f53 := getD_form e53
              clear h57 h62 h53
              refine ⟨true, 53, by rfl, e53, ?_⟩; rw [if_pos rfl]
              go_simp; exact left_intro rfl (Stp.refl _) trivial
            refine ⟨?_, ?_⟩
            · rintro L a1 w1 hT - - ⟨h53, h63, -⟩   -- 22: Op.pick t53 t63 (const (Value.bool false))
              have e53 : a1.tmps.getD 53 undef = _ := h53
              have f53 := getD_form e53
              have e63 : a1.tmps.getD 63 undef = _ := h63
              have f63 := getD_form e63
              clear h53 h63
              go_simp; exact left_intro rfl (Stp.refl _) trivial
            refine ⟨?_, ?_⟩
            · rintro L a1 w1 hT - - ⟨h64, -⟩   -- 23: Op.assign t64
              have e64 : a1.tmps.getD 64 undef = _ := h64
              have f64 := getD_form e64
              clear h64
              go_simp; exact left_intro rfl (Stp.refl _) trivial
            trivial
          case hmono => repeat (first | exact trivial | refine ⟨fun _ _ _ _ h => h, ?_⟩)
          case hend =>
            intro w2 hT
            rintro _ rfl _ rfl _ rfl _ rfl _ rfl _ rfl _ rfl _ rfl _ rfl _ rfl _ rfl _ rfl _ rfl _ rfl _ rfl _ rfl _ rfl _ rfl _ rfl _ rfl _ rfl _ rfl _ rfl _ rfl
            simp only [relEnd, Act.put, List.setIfInBounds_toArray, List.set_cons_succ, List.set_cons_zero]
            replace B0 := B0.at_ hT
            replace B1 := B1.at_ hT
            replace B2 := B2.at_ hT
            replace B3 := B3.at_ hT
            replace B4 := B4.at_ hT
            replace B5 := B5.at_ hT
            replace hB := hB.trans (Below.mono hT hB.size)
            clear hT
            go_wp2
            go_ret
            exact ⟨rfl, hB⟩
      · cases E2
        · have hd : (IT1 == IT2) = false := by rw [hx1, Bool.and_false]
          clear hx1
          apply wp_region_rel_below [[(8, none)], [(22, some 0)], [(9, none)], [(24, some 2)], [(23, some 1), (25, some 3)], [(10, none)], [(27, some 5)], [(11, none)], [(29, some 7)], [(28, some 6), (30, some 8)], [(26, some 4), (31, some 9)], [(8, none)], [(10, none)], [(33, some 11), (34, some 12)], [(35, some 13)], [(9, none), (36, some 14)], [(11, none), (36, some 14)], [(37, some 15), (38, some 16), (36, some 14)], [(36, some 14), (39, some 17)], [(32, some 10), (40, some 18)]] [eqv _, eqv _, eqv _, eqv _, eqv _, eqv _, eqv _, eqv _, eqv _, eqv _, eqv _, eqv _, eqv _, eqv _, eqv _, eqv _, eqv _, eqv _, eqv _, eqv _] (by kernel_rfl) (by kernel_rfl)
          case hobs =>
            refine ⟨?_, ?_⟩
            · rintro L a1 w1 hT - - ⟨h8, -⟩   -- 0: Op.load 65 t8
              have e8 : a1.tmps.getD 8 undef = _ := h8
              have f8 := getD_form e8
              clear h8
              exact wp_load_blkL 65 (.tmp 8) rfl _ e8 (cs := itemC n0 p0 s0 t0) B2 hT _ Try.underlying65 (by rfl) hz2 (left_intro rfl (Stp.refl _) trivial)
            refine ⟨?_, ?_⟩
            · rintro L a1 w1 hT - - ⟨h22, -⟩   -- 1: Op.call { value (Operand.func 46), args := #[t22], argTypes := #[65] }
              have e22 : a1.tmps.getD 22 undef = _ := h22
              have f22 := getD_form e22
              clear h22
              go_simp; go_at_call 46; (with_reducible refine (T0.out _).mono ?_); rintro e w2 ⟨rfl, hb⟩; exact left_intro rfl (Stp.of hb) trivial
            refine ⟨?_, ?_⟩
            · rintro L a1 w1 hT - - ⟨h9, -⟩   -- 2: Op.load 65 t9
              have e9 : a1.tmps.getD 9 undef = _ := h9
              have f9 := getD_form e9
              clear h9
              exact wp_load_blkL 65 (.tmp 9) rfl _ e9 (cs := itemC n1 p1 s1 t1) B3 hT _ Try.underlying65 (by rfl) hz3 (left_intro rfl (Stp.refl _) trivial)
            refine ⟨?_, ?_⟩
            · rintro L a1 w1 hT - - ⟨h24, -⟩   -- 3: Op.call { value (Operand.func 46), args := #[t24], argTypes := #[65] }
              have e24 : a1.tmps.getD 24 undef = _ := h24
              have f24 := getD_form e24
              clear h24
              go_simp; go_at_call 46; (with_reducible refine (T1.out _).mono ?_); rintro e w2 ⟨rfl, hb⟩; exact left_intro rfl (Stp.of hb) trivial
            refine ⟨?_, ?_⟩
            · rintro L a1 w1 hT - - ⟨h23, h25, -⟩   -- 4: Op.call { value (Operand.func 52), args := #[t23, t25], argTypes := #[72, 72] }
              have e23 : a1.tmps.getD 23 undef = _ := h23
              have f23 := getD_form e23
              have e25 : a1.tmps.getD 25 undef = _ := h25
              have f25 := getD_form e25
              clear h23 h25
              go_simp; go_at_call 52; (with_reducible refine (I01.out _).mono ?_); rintro e w2 ⟨rfl, hb⟩; exact left_intro rfl (Stp.of hb) trivial
            refine ⟨?_, ?_⟩
            · rintro L a1 w1 hT - - ⟨h10, -⟩   -- 5: Op.load 65 t10
              have e10 : a1.tmps.getD 10 undef = _ := h10
              have f10 := getD_form e10
              clear h10
              exact wp_load_blkL 65 (.tmp 10) rfl _ e10 (cs := itemC n2 p2 s2 t2) B4 hT _ Try.underlying65 (by rfl) hz4 (left_intro rfl (Stp.refl _) trivial)
            refine ⟨?_, ?_⟩
            · rintro L a1 w1 hT - - ⟨h27, -⟩   -- 6: Op.call { value (Operand.func 46), args := #[t27], argTypes := #[65] }
              have e27 : a1.tmps.getD 27 undef = _ := h27
              have f27 := getD_form e27
              clear h27
              go_simp; go_at_call 46; (with_reducible refine (T2.out _).mono ?_); rintro e w2 ⟨rfl, hb⟩; exact left_intro rfl (Stp.of hb) trivial
            refine ⟨?_, ?_⟩
            · rintro L a1 w1 hT - - ⟨h11, -⟩   -- 7: Op.load 65 t11
              have e11 : a1.tmps.getD 11 undef = _ := h11
              have f11 := getD_form e11
              clear h11
              exact wp_load_blkL 65 (.tmp 11) rfl _ e11 (cs := itemC n3 p3 s3 t3) B5 hT _ Try.underlying65 (by rfl) hz5 (left_intro rfl (Stp.refl _) trivial)
            refine ⟨?_, ?_⟩
            · rintro L a1 w1 hT - - ⟨h29, -⟩   -- 8: Op.call { value (Operand.func 46), args := #[t29], argTypes := #[65] }
              have e29 : a1.tmps.getD 29 undef = _ := h29
              have f29 := getD_form e29
              clear h29
              go_simp; go_at_call 46; (with_reducible refine (T3.out _).mono ?_); rintro e w2 ⟨rfl, hb⟩; exact left_intro rfl (Stp.of hb) trivial
            refine ⟨?_, ?_⟩
            · rintro L a1 w1 hT - - ⟨h28, h30, -⟩   -- 9: Op.call { value (Operand.func 52), args := #[t28, t30], argTypes := #[72, 72] }
              have e28 : a1.tmps.getD 28 undef = _ := h28
              have f28 := getD_form e28
              have e30 : a1.tmps.getD 30 undef = _ := h30
              have f30 := getD_form e30
              clear h28 h30
              go_simp; go_at_call 52; (with_reducible refine (I23.out _).mono ?_); rintro e w2 ⟨rfl, hb⟩; exact left_intro rfl (Stp.of hb) trivial
            refine ⟨?_, ?_⟩
            · rintro L a1 w1 hT - - ⟨h26, h31, -⟩   -- 10: Op.binOp BinOp.eql 9 t26 t31 9
              have e26 : a1.tmps.getD 26 undef = _ := h26
              have f26 := getD_form e26
              have e31 : a1.tmps.getD 31 undef = _ := h31
              have f31 := getD_form e31
              clear h26 h31
              go_simp; exact left_intro rfl (Stp.refl _) trivial
            refine ⟨?_, ?_⟩
            · rintro L a1 w1 hT - - ⟨h8, -⟩   -- 11: Op.load 65 t8
              have e8 : a1.tmps.getD 8 undef = _ := h8
              have f8 := getD_form e8
              clear h8
              exact wp_load_blkL 65 (.tmp 8) rfl _ e8 (cs := itemC n0 p0 s0 t0) B2 hT _ Try.underlying65 (by rfl) hz2 (left_intro rfl (Stp.refl _) trivial)
            refine ⟨?_, ?_⟩
            · rintro L a1 w1 hT - - ⟨h10, -⟩   -- 12: Op.load 65 t10
              have e10 : a1.tmps.getD 10 undef = _ := h10
              have f10 := getD_form e10
              clear h10
              exact wp_load_blkL 65 (.tmp 10) rfl _ e10 (cs := itemC n2 p2 s2 t2) B4 hT _ Try.underlying65 (by rfl) hz4 (left_intro rfl (Stp.refl _) trivial)
            refine ⟨?_, ?_⟩
            · rintro L a1 w1 hT - - ⟨h33, h34, -⟩   -- 13: Op.binOp BinOp.eql 65 t33 t34 65
              have e33 : a1.tmps.getD 33 undef = _ := h33
              have f33 := getD_form e33
              have e34 : a1.tmps.getD 34 undef = _ := h34
              have f34 := getD_form e34
              clear h33 h34
              exact wp_bin .eql 65 65 (.tmp 33) (.tmp 34) rfl _ _ e33 e34 guard65 _ (hq1.out _) (left_intro rfl (Stp.refl _) trivial)
            refine ⟨?_, ?_⟩
            · rintro L a1 w1 hT - - ⟨h35, -⟩   -- 14: Op.move t35
              have e35 : a1.tmps.getD 35 undef = _ := h35
              have f35 := getD_form e35
              clear h35
              go_simp; exact left_intro rfl (Stp.refl _) trivial
            refine ⟨?_, ?_⟩
            · rintro L a1 w1 hT - - ⟨h9, h36, -⟩   -- 15: Op.load 65 t9
              have e9 : a1.tmps.getD 9 undef = _ := h9
              have f9 := getD_form e9
              have e36 : a1.tmps.getD 36 undef = _ := h36
              have f36 := getD_form e36
              clear h9 h36
              refine ⟨true, 36, by rfl, e36, ?_⟩; rw [if_pos rfl]
              exact wp_load_blkL 65 (.tmp 9) rfl _ e9 (cs := itemC n1 p1 s1 t1) B3 hT _ Try.underlying65 (by rfl) hz3 (left_intro rfl (Stp.refl _) trivial)
            refine ⟨?_, ?_⟩
            · rintro L a1 w1 hT - - ⟨h11, h36, -⟩   -- 16: Op.load 65 t11
              have e11 : a1.tmps.getD 11 undef = _ := h11
              have f11 := getD_form e11
              have e36 : a1.tmps.getD 36 undef = _ := h36
              have f36 := getD_form e36
              clear h11 h36
              refine ⟨true, 36, by rfl, e36, ?_⟩; rw [if_pos rfl]
              exact wp_load_blkL 65 (.tmp 11) rfl _ e11 (cs := itemC n3 p3 s3 t3) B5 hT _ Try.underlying65 (by rfl) hz5 (left_intro rfl (Stp.refl _) trivial)
            refine ⟨?_, ?_⟩
            · rintro L a1 w1 hT - - ⟨h37, h38, h36, -⟩   -- 17: Op.binOp BinOp.eql 65 t37 t38 65
              have e37 : a1.tmps.getD 37 undef = _ := h37
              have f37 := getD_form e37
              have e38 : a1.tmps.getD 38 undef = _ := h38
              have f38 := getD_form e38
              have e36 : a1.tmps.getD 36 undef = _ := h36
              have f36 := getD_form e36
              clear h37 h38 h36
              refine ⟨true, 36, by rfl, e36, ?_⟩; rw [if_pos rfl]
              exact wp_bin .eql 65 65 (.tmp 37) (.tmp 38) rfl _ _ e37 e38 guard65 _ (hq2.out _) (left_intro rfl (Stp.refl _) trivial)
            refine ⟨?_, ?_⟩
            · rintro L a1 w1 hT - - ⟨h36, h39, -⟩   -- 18: Op.pick t36 t39 (const (Value.bool false))
              have e36 : a1.tmps.getD 36 undef = _ := h36
              have f36 := getD_form e36
              have e39 : a1.tmps.getD 39 undef = _ := h39
              have f39 := getD_form e39
              clear h36 h39
              go_simp; exact left_intro rfl (Stp.refl _) trivial
            refine ⟨?_, ?_⟩
            · rintro L a1 w1 hT - - ⟨h32, h40, -⟩   -- 19: Op.binOp BinOp.neq 4 t32 t40 4
              have e32 : a1.tmps.getD 32 undef = _ := h32
              have f32 := getD_form e32
              have e40 : a1.tmps.getD 40 undef = _ := h40
              have f40 := getD_form e40
              clear h32 h40
              go_simp; exact left_intro rfl (Stp.refl _) trivial
            trivial
          case hmono => repeat (first | exact trivial | refine ⟨fun _ _ _ _ h => h, ?_⟩)
          case hend =>
            intro w2 hT
            rintro _ rfl _ rfl _ rfl _ rfl _ rfl _ rfl _ rfl _ rfl _ rfl _ rfl _ rfl _ rfl _ rfl _ rfl _ rfl _ rfl _ rfl _ rfl _ rfl _ rfl
            simp only [relEnd, Act.put, List.setIfInBounds_toArray, List.set_cons_succ, List.set_cons_zero]
            replace B0 := B0.at_ hT
            replace B1 := B1.at_ hT
            replace B2 := B2.at_ hT
            replace B3 := B3.at_ hT
            replace B4 := B4.at_ hT
            replace B5 := B5.at_ hT
            replace hB := hB.trans (Below.mono hT hB.size)
            clear hT
            go_wp2
            apply wp_region_rel_below [[], [(42, some 0)], [(6, none), (43, some 1)], [(44, some 2), (43, some 1)], [(8, none), (43, some 1)], [(46, some 4), (43, some 1)], [(9, none), (43, some 1)], [(48, some 6), (43, some 1)], [(47, some 5), (49, some 7), (43, some 1)], [(45, some 3), (50, some 8), (43, some 1)], [(43, some 1), (51, some 9)], [(52, some 10)], [(6, none), (53, some 11)], [(7, none), (53, some 11)], [(54, some 12), (55, some 13), (53, some 11)], [(56, some 14), (53, some 11)], [(6, none), (57, some 15)], [(58, some 16), (57, some 15)], [(7, none), (57, some 15)], [(60, some 18), (57, some 15)], [(59, some 17), (61, some 19), (57, some 15)], [(57, some 15), (62, some 20), (53, some 11)], [(53, some 11), (63, some 21)], [(64, some 22)]] [eqv _, eqv _, eqv _, eqv _, eqv _, eqv _, eqv _, eqv _, eqv _, eqv _, eqv _, eqv _, eqv _, eqv _, eqv _, eqv _, eqv _, eqv _, eqv _, eqv _, eqv _, eqv _, eqv _, eqv _] (by kernel_rfl) (by kernel_rfl)
            case hobs =>
              refine ⟨?_, ?_⟩
              · rintro L a1 w1 hT - - -   -- 0: Op.call { value (Operand.func 47), args := #[], argTypes := #[] }
                go_simp; go_at_call 47; (with_reducible refine (AA.out _).mono ?_); rintro e w2 ⟨rfl, hb⟩; exact left_intro rfl (Stp.of hb) trivial
              refine ⟨?_, ?_⟩
              · rintro L a1 w1 hT - - ⟨h42, -⟩   -- 1: Op.move t42
                have e42 : a1.tmps.getD 42 undef = _ := h42
                have f42 := getD_form e42
                clear h42
                go_simp; exact left_intro rfl (Stp.refl _) trivial
              refine ⟨?_, ?_⟩
              · rintro L a1 w1 hT - - ⟨h6, h43, -⟩   -- 2: Op.load 61 t6
                have e6 : a1.tmps.getD 6 undef = _ := h6
                have f6 := getD_form e6
                have e43 : a1.tmps.getD 43 undef = _ := h43
                have f43 := getD_form e43
                clear h6 h43
                refine ⟨true, 43, by rfl, e43, ?_⟩; rw [if_pos rfl]
                exact wp_load_blkL 61 (.tmp 6) rfl _ e6 (cs := leafC k u i) B0 hT _ Try.underlying61 (by rfl) hz0 (left_intro rfl (Stp.refl _) trivial)
              refine ⟨?_, ?_⟩
              · rintro L a1 w1 hT - - ⟨h44, h43, -⟩   -- 3: Op.call { value (Operand.func 51), args := #[t44], argTypes := #[77] }
                have e44 : a1.tmps.getD 44 undef = _ := h44
                have f44 := getD_form e44
                have e43 : a1.tmps.getD 43 undef = _ := h43
                have f43 := getD_form e43
                clear h44 h43
                refine ⟨true, 43, by rfl, e43, ?_⟩; rw [if_pos rfl]
                go_simp; go_at_call 51; (with_reducible refine (LK.out _).mono ?_); rintro e w2 ⟨rfl, hb⟩; exact left_intro rfl (Stp.of hb) trivial
              refine ⟨?_, ?_⟩
              · rintro L a1 w1 hT - - ⟨h8, h43, -⟩   -- 4: Op.load 65 t8
                have e8 : a1.tmps.getD 8 undef = _ := h8
                have f8 := getD_form e8
                have e43 : a1.tmps.getD 43 undef = _ := h43
                have f43 := getD_form e43
                clear h8 h43
                refine ⟨true, 43, by rfl, e43, ?_⟩; rw [if_pos rfl]
                exact wp_load_blkL 65 (.tmp 8) rfl _ e8 (cs := itemC n0 p0 s0 t0) B2 hT _ Try.underlying65 (by rfl) hz2 (left_intro rfl (Stp.refl _) trivial)
              refine ⟨?_, ?_⟩
              · rintro L a1 w1 hT - - ⟨h46, h43, -⟩   -- 5: Op.call { value (Operand.func 46), args := #[t46], argTypes := #[65] }
                have e46 : a1.tmps.getD 46 undef = _ := h46
                have f46 := getD_form e46
                have e43 : a1.tmps.getD 43 undef = _ := h43
                have f43 := getD_form e43
                clear h46 h43
                refine ⟨true, 43, by rfl, e43, ?_⟩; rw [if_pos rfl]
                go_simp; go_at_call 46; (with_reducible refine (T0.out _).mono ?_); rintro e w2 ⟨rfl, hb⟩; exact left_intro rfl (Stp.of hb) trivial
              refine ⟨?_, ?_⟩
              · rintro L a1 w1 hT - - ⟨h9, h43, -⟩   -- 6: Op.load 65 t9
                have e9 : a1.tmps.getD 9 undef = _ := h9
                have f9 := getD_form e9
                have e43 : a1.tmps.getD 43 undef = _ := h43
                have f43 := getD_form e43
                clear h9 h43
                refine ⟨true, 43, by rfl, e43, ?_⟩; rw [if_pos rfl]
                exact wp_load_blkL 65 (.tmp 9) rfl _ e9 (cs := itemC n1 p1 s1 t1) B3 hT _ Try.underlying65 (by rfl) hz3 (left_intro rfl (Stp.refl _) trivial)
              refine ⟨?_, ?_⟩
              · rintro L a1 w1 hT - - ⟨h48, h43, -⟩   -- 7: Op.call { value (Operand.func 46), args := #[t48], argTypes := #[65] }
                have e48 : a1.tmps.getD 48 undef = _ := h48
                have f48 := getD_form e48
                have e43 : a1.tmps.getD 43 undef = _ := h43
                have f43 := getD_form e43
                clear h48 h43
                refine ⟨true, 43, by rfl, e43, ?_⟩; rw [if_pos rfl]
                go_simp; go_at_call 46; (with_reducible refine (T1.out _).mono ?_); rintro e w2 ⟨rfl, hb⟩; exact left_intro rfl (Stp.of hb) trivial
              refine ⟨?_, ?_⟩
              · rintro L a1 w1 hT - - ⟨h47, h49, h43, -⟩   -- 8: Op.call { value (Operand.func 52), args := #[t47, t49], argTypes := #[72, 72] }
                have e47 : a1.tmps.getD 47 undef = _ := h47
                have f47 := getD_form e47
                have e49 : a1.tmps.getD 49 undef = _ := h49
                have f49 := getD_form e49
                have e43 : a1.tmps.getD 43 undef = _ := h43
                have f43 := getD_form e43
                clear h47 h49 h43
                refine ⟨true, 43, by rfl, e43, ?_⟩; rw [if_pos rfl]
                go_simp; go_at_call 52; (with_reducible refine (I01.out _).mono ?_); rintro e w2 ⟨rfl, hb⟩; exact left_intro rfl (Stp.of hb) trivial
              refine ⟨?_, ?_⟩
              · rintro L a1 w1 hT - - ⟨h45, h50, h43, -⟩   -- 9: Op.binOp BinOp.neq 9 t45 t50 9
                have e45 : a1.tmps.getD 45 undef = _ := h45
                have f45 := getD_form e45
                have e50 : a1.tmps.getD 50 undef = _ := h50
                have f50 := getD_form e50
                have e43 : a1.tmps.getD 43 undef = _ := h43
                have f43 := getD_form e43
                clear h45 h50 h43
                refine ⟨true, 43, by rfl, e43, ?_⟩; rw [if_pos rfl]
                go_simp; exact left_intro rfl (Stp.refl _) trivial
              refine ⟨?_, ?_⟩
              · rintro L a1 w1 hT - - ⟨h43, h51, -⟩   -- 10: Op.pick t43 t51 (const (Value.bool false))
                have e43 : a1.tmps.getD 43 undef = _ := h43
                have f43 := getD_form e43
                have e51 : a1.tmps.getD 51 undef = _ := h51
                have f51 := getD_form e51
                clear h43 h51
                go_simp; exact left_intro rfl (Stp.refl _) trivial
              refine ⟨?_, ?_⟩
              · rintro L a1 w1 hT - - ⟨h52, -⟩   -- 11: Op.move t52
                have e52 : a1.tmps.getD 52 undef = _ := h52
                have f52 := getD_form e52
                clear h52
                go_simp; exact left_intro rfl (Stp.refl _) trivial
              refine ⟨?_, ?_⟩
              · rintro L a1 w1 hT - - ⟨h6, h53, -⟩   -- 12: Op.load 61 t6
                have e6 : a1.tmps.getD 6 undef = _ := h6
                have f6 := getD_form e6
                have e53 : a1.tmps.getD 53 undef = _ := h53
                have f53 := getD_form e53
                clear h6 h53
                refine ⟨true, 53, by rfl, e53, ?_⟩; rw [if_pos rfl]
                exact wp_load_blkL 61 (.tmp 6) rfl _ e6 (cs := leafC k u i) B0 hT _ Try.underlying61 (by rfl) hz0 (left_intro rfl (Stp.refl _) trivial)
              refine ⟨?_, ?_⟩
              · rintro L a1 w1 hT - - ⟨h7, h53, -⟩   -- 13: Op.load 61 t7
                have e7 : a1.tmps.getD 7 undef = _ := h7
                have f7 := getD_form e7
                have e53 : a1.tmps.getD 53 undef = _ := h53
                have f53 := getD_form e53
                clear h7 h53
                refine ⟨true, 53, by rfl, e53, ?_⟩; rw [if_pos rfl]
                exact wp_load_blkL 61 (.tmp 7) rfl _ e7 (cs := leafC l v j) B1 hT _ Try.underlying61 (by rfl) hz1 (left_intro rfl (Stp.refl _) trivial)
              refine ⟨?_, ?_⟩
              · rintro L a1 w1 hT - - ⟨h54, h55, h53, -⟩   -- 14: Op.binOp BinOp.neq 61 t54 t55 61
                have e54 : a1.tmps.getD 54 undef = _ := h54
                have f54 := getD_form e54
                have e55 : a1.tmps.getD 55 undef = _ := h55
                have f55 := getD_form e55
                have e53 : a1.tmps.getD 53 undef = _ := h53
                have f53 := getD_form e53
                clear h54 h55 h53
                refine ⟨true, 53, by rfl, e53, ?_⟩; rw [if_pos rfl]
                exact wp_bin .neq 61 61 (.tmp 54) (.tmp 55) rfl _ _ e54 e55 guard61 _ (hnq0.out _) (left_intro rfl (Stp.refl _) trivial)
              refine ⟨?_, ?_⟩
              · rintro L a1 w1 hT - - ⟨h56, h53, -⟩   -- 15: Op.move t56
                have e56 : a1.tmps.getD 56 undef = _ := h56
                have f56 := getD_form e56
                have e53 : a1.tmps.getD 53 undef = _ := h53
                have f53 := getD_form e53
                clear h56 h53
                refine ⟨true, 53, by rfl, e53, ?_⟩; rw [if_pos rfl]
                go_simp; exact left_intro rfl (Stp.refl _) trivial
              refine ⟨?_, ?_⟩
              · rintro L a1 w1 hT - - ⟨h6, h57, -⟩   -- 16: Op.load 61 t6
                have e6 : a1.tmps.getD 6 undef = _ := h6
                have f6 := getD_form e6
                have e57 : a1.tmps.getD 57 undef = _ := h57
                have f57 := getD_form e57
                clear h6 h57
                refine ⟨false, 57, by rfl, e57, ?_⟩; rw [if_pos rfl]
                exact wp_load_blkL 61 (.tmp 6) rfl _ e6 (cs := leafC k u i) B0 hT _ Try.underlying61 (by rfl) hz0 (left_intro rfl (Stp.refl _) trivial)
              refine ⟨?_, ?_⟩
              · rintro L a1 w1 hT - - ⟨h58, h57, -⟩   -- 17: Op.call { value (Operand.func 53), args := #[t58], argTypes := #[61] }
                have e58 : a1.tmps.getD 58 undef = _ := h58
                have f58 := getD_form e58
                have e57 : a1.tmps.getD 57 undef = _ := h57
                have f57 := getD_form e57
                clear h58 h57
                refine ⟨false, 57, by rfl, e57, ?_⟩; rw [if_pos rfl]
                go_simp; go_at_call 53; (with_reducible refine (IK.out _).mono ?_); rintro e w2 ⟨rfl, hb⟩; exact left_intro rfl (Stp.of hb) trivial
              refine ⟨?_, ?_⟩
              · rintro L a1 w1 hT - - ⟨h7, h57, -⟩   -- 18: Op.load 61 t7
                have e7 : a1.tmps.getD 7 undef = _ := h7
                have f7 := getD_form e7
                have e57 : a1.tmps.getD 57 undef = _ := h57
                have f57 := getD_form e57
                clear h7 h57
                refine ⟨false, 57, by rfl, e57, ?_⟩; rw [if_pos rfl]
                exact wp_load_blkL 61 (.tmp 7) rfl _ e7 (cs := leafC l v j) B1 hT _ Try.underlying61 (by rfl) hz1 (left_intro rfl (Stp.refl _) trivial)
              refine ⟨?_, ?_⟩
              · rintro L a1 w1 hT - - ⟨h60, h57, -⟩   -- 19: Op.call { value (Operand.func 53), args := #[t60], argTypes := #[61] }
                have e60 : a1.tmps.getD 60 undef = _ := h60
                have f60 := getD_form e60
                have e57 : a1.tmps.getD 57 undef = _ := h57
                have f57 := getD_form e57
                clear h60 h57
                refine ⟨false, 57, by rfl, e57, ?_⟩; rw [if_pos rfl]
                go_simp; go_at_call 53; (with_reducible refine (IL.out _).mono ?_); rintro e w2 ⟨rfl, hb⟩; exact left_intro rfl (Stp.of hb) trivial
              refine ⟨?_, ?_⟩
              · rintro L a1 w1 hT - - ⟨h59, h61, h57, -⟩   -- 20: Op.binOp BinOp.eql 65 t59 t61 65
                have e59 : a1.tmps.getD 59 undef = _ := h59
                have f59 := getD_form e59
                have e61 : a1.tmps.getD 61 undef = _ := h61
                have f61 := getD_form e61
                have e57 : a1.tmps.getD 57 undef = _ := h57
                have f57 := getD_form e57
                clear h59 h61 h57
                refine ⟨false, 57, by rfl, e57, ?_⟩; rw [if_pos rfl]
                exact wp_bin .eql 65 65 (.tmp 59) (.tmp 61) rfl _ _ e59 e61 guard65 _ (hsq0.out _) (left_intro rfl (Stp.refl _) trivial)
              refine ⟨?_, ?_⟩
              · rintro L a1 w1 hT - - ⟨h57, h62, h53, -⟩   -- 21: Op.pick t57 (const (Value.bool true)) t62
                have e57 : a1.tmps.getD 57 undef = _ := h57
                have f57 := getD_form e57
                have e62 : a1.tmps.getD 62 undef = _ := h62
                have f62 := getD_form e62
                have e53 : a1.tmps.getD 53 undef = _ := h53
                have f53 := getD_form e53
                clear h57 h62 h53
                refine ⟨true, 53, by rfl, e53, ?_⟩; rw [if_pos rfl]
                go_simp; exact left_intro rfl (Stp.refl _) trivial
              refine ⟨?_, ?_⟩
              · rintro L a1 w1 hT - - ⟨h53, h63, -⟩   -- 22: Op.pick t53 t63 (const (Value.bool false))
                have e53 : a1.tmps.getD 53 undef = _ := h53
                have f53 := getD_form e53
                have e63 : a1.tmps.getD 63 undef = _ := h63
                have f63 := getD_form e63
                clear h53 h63
                go_simp; exact left_intro rfl (Stp.refl _) trivial
              refine ⟨?_, ?_⟩
              · rintro L a1 w1 hT - - ⟨h64, -⟩   -- 23: Op.assign t64
                have e64 : a1.tmps.getD 64 undef = _ := h64
                have f64 := getD_form e64
                clear h64
                go_simp; exact left_intro rfl (Stp.refl _) trivial
              trivial
            case hmono => repeat (first | exact trivial | refine ⟨fun _ _ _ _ h => h, ?_⟩)
            case hend =>
              intro w2 hT
              rintro _ rfl _ rfl _ rfl _ rfl _ rfl _ rfl _ rfl _ rfl _ rfl _ rfl _ rfl _ rfl _ rfl _ rfl _ rfl _ rfl _ rfl _ rfl _ rfl _ rfl _ rfl _ rfl _ rfl _ rfl
              simp only [relEnd, Act.put, List.setIfInBounds_toArray, List.set_cons_succ, List.set_cons_zero]
              replace B0 := B0.at_ hT
              replace B1 := B1.at_ hT
              replace B2 := B2.at_ hT
              replace B3 := B3.at_ hT
              replace B4 := B4.at_ hT
              replace B5 := B5.at_ hT
              replace hB := hB.trans (Below.mono hT hB.size)
              clear hT
              go_wp2
              go_ret
              exact ⟨rfl, hB⟩
        · have hd : (IT1 == IT2) = true := by rw [hx1, Bool.and_true]
          clear hx1
          apply wp_region_rel_below [[(8, none)], [(22, some 0)], [(9, none)], [(24, some 2)], [(23, some 1), (25, some 3)], [(10, none)], [(27, some 5)], [(11, none)], [(29, some 7)], [(28, some 6), (30, some 8)], [(26, some 4), (31, some 9)], [(8, none)], [(10, none)], [(33, some 11), (34, some 12)], [(35, some 13)], [(9, none), (36, some 14)], [(11, none), (36, some 14)], [(37, some 15), (38, some 16), (36, some 14)], [(36, some 14), (39, some 17)], [(32, some 10), (40, some 18)]] [eqv _, eqv _, eqv _, eqv _, eqv _, eqv _, eqv _, eqv _, eqv _, eqv _, eqv _, eqv _, eqv _, eqv _, eqv _, eqv _, eqv _, eqv _, eqv _, eqv _] (by kernel_rfl) (by kernel_rfl)
          case hobs =>
            refine ⟨?_, ?_⟩
            · rintro L a1 w1 hT - - ⟨h8, -⟩   -- 0: Op.load 65 t8
              have e8 : a1.tmps.getD 8 undef = _ := h8
              have f8 := getD_form e8
              clear h8
              exact wp_load_blkL 65 (.tmp 8) rfl _ e8 (cs := itemC n0 p0 s0 t0) B2 hT _ Try.underlying65 (by rfl) hz2 (left_intro rfl (Stp.refl _) trivial)
            refine ⟨?_, ?_⟩
            · rintro L a1 w1 hT - - ⟨h22, -⟩   -- 1: Op.call { value (Operand.func 46), args := #[t22], argTypes := #[65] }
              have e22 : a1.tmps.getD 22 undef = _ := h22
              have f22 := getD_form e22
              clear h22
              go_simp; go_at_call 46; (with_reducible refine (T0.out _).mono ?_); rintro e w2 ⟨rfl, hb⟩; exact left_intro rfl (Stp.of hb) trivial
            refine ⟨?_, ?_⟩
            · rintro L a1 w1 hT - - ⟨h9, -⟩   -- 2: Op.load 65 t9
              have e9 : a1.tmps.getD 9 undef = _ := h9
              have f9 := getD_form e9
              clear h9
              exact wp_load_blkL 65 (.tmp 9) rfl _ e9 (cs := itemC n1 p1 s1 t1) B3 hT _ Try.underlying65 (by rfl) hz3 (left_intro rfl (Stp.refl _) trivial)
            refine ⟨?_, ?_⟩
            · rintro L a1 w1 hT - - ⟨h24, -⟩   -- 3: Op.call { value (Operand.func 46), args := #[t24], argTypes := #[65] }
              have e24 : a1.tmps.getD 24 undef = _ := h24
              have f24 := getD_form e24
              clear h24
              go_simp; go_at_call 46; (with_reducible refine (T1.out _).mono ?_); rintro e w2 ⟨rfl, hb⟩; exact left_intro rfl (Stp.of hb) trivial
            refine ⟨?_, ?_⟩
            · rintro L a1 w1 hT - - ⟨h23, h25, -⟩   -- 4: Op.call { value (Operand.func 52), args := #[t23, t25], argTypes := #[72, 72] }
              have e23 : a1.tmps.getD 23 undef = _ := h23
              have f23 := getD_form e23
              have e25 : a1.tmps.getD 25 undef = _ := h25
              have f25 := getD_form e25
              clear h23 h25
              go_simp; go_at_call 52; (with_reducible refine (I01.out _).mono ?_); rintro e w2 ⟨rfl, hb⟩; exact left_intro rfl (Stp.of hb) trivial
            refine ⟨?_, ?_⟩
            · rintro L a1 w1 hT - - ⟨h10, -⟩   -- 5: Op.load 65 t10
              have e10 : a1.tmps.getD 10 undef = _ := h10
              have f10 := getD_form e10
              clear h10
              exact wp_load_blkL 65 (.tmp 10) rfl _ e10 (cs := itemC n2 p2 s2 t2) B4 hT _ Try.underlying65 (by rfl) hz4 (left_intro rfl (Stp.refl _) trivial)
            refine ⟨?_, ?_⟩
            · rintro L a1 w1 hT - - ⟨h27, -⟩   -- 6: Op.call { value (Operand.func 46), args := #[t27], argTypes := #[65] }
              have e27 : a1.tmps.getD 27 undef = _ := h27
              have f27 := getD_form e27
              clear h27
              go_simp; go_at_call 46; (with_reducible refine (T2.out _).mono ?_); rintro e w2 ⟨rfl, hb⟩; exact left_intro rfl (Stp.of hb) trivial
            refine ⟨?_, ?_⟩
            · rintro L a1 w1 hT - - ⟨h11, -⟩   -- 7: Op.load 65 t11
              have e11 : a1.tmps.getD 11 undef = _ := h11
              have f11 := getD_form e11
              clear h11
              exact wp_load_blkL 65 (.tmp 11) rfl _ e11 (cs := itemC n3 p3 s3 t3) B5 hT _ Try.underlying65 (by rfl) hz5 (left_intro rfl (Stp.refl _) trivial)
            refine ⟨?_, ?_⟩
            · rintro L a1 w1 hT - - ⟨h29, -⟩   -- 8: Op.call { value (Operand.func 46), args := #[t29], argTypes := #[65] }
              have e29 : a1.tmps.getD 29 undef = _ := h29
              have f29 := getD_form e29
              clear h29
              go_simp; go_at_call 46; (with_reducible refine (T3.out _).mono ?_); rintro e w2 ⟨rfl, hb⟩; exact left_intro rfl (Stp.of hb) trivial
            refine ⟨?_, ?_⟩
            · rintro L a1 w1 hT - - ⟨h28, h30, -⟩   -- 9: Op.call { value (Operand.func 52), args := #[t28, t30], argTypes := #[72, 72] }
              have e28 : a1.tmps.getD 28 undef = _ := h28
              have f28 := getD_form e28
              have e30 : a1.tmps.getD 30 undef = _ := h30
              have f30 := getD_form e30
              clear h28 h30
              go_simp; go_at_call 52; (with_reducible refine (I23.out _).mono ?_); rintro e w2 ⟨rfl, hb⟩; exact left_intro rfl (Stp.of hb) trivial
            refine ⟨?_, ?_⟩
            · rintro L a1 w1 hT - - ⟨h26, h31, -⟩   -- 10: Op.binOp BinOp.eql 9 t26 t31 9
              have e26 : a1.tmps.getD 26 undef = _ := h26
              have f26 := getD_form e26
              have e31 : a1.tmps.getD 31 undef = _ := h31
              have f31 := getD_form e31
              clear h26 h31
              go_simp; exact left_intro rfl (Stp.refl _) trivial
            refine ⟨?_, ?_⟩
            · rintro L a1 w1 hT - - ⟨h8, -⟩   -- 11: Op.load 65 t8
              have e8 : a1.tmps.getD 8 undef = _ := h8
              have f8 := getD_form e8
              clear h8
              exact wp_load_blkL 65 (.tmp 8) rfl _ e8 (cs := itemC n0 p0 s0 t0) B2 hT _ Try.underlying65 (by rfl) hz2 (left_intro rfl (Stp.refl _) trivial)
            refine ⟨?_, ?_⟩
            · rintro L a1 w1 hT - - ⟨h10, -⟩   -- 12: Op.load 65 t10
              have e10 : a1.tmps.getD 10 undef = _ := h10
              have f10 := getD_form e10
              clear h10
              exact wp_load_blkL 65 (.tmp 10) rfl _ e10 (cs := itemC n2 p2 s2 t2) B4 hT _ Try.underlying65 (by rfl) hz4 (left_intro rfl (Stp.refl _) trivial)
            refine ⟨?_, ?_⟩
            · rintro L a1 w1 hT - - ⟨h33, h34, -⟩   -- 13: Op.binOp BinOp.eql 65 t33 t34 65
              have e33 : a1.tmps.getD 33 undef = _ := h33
              have f33 := getD_form e33
              have e34 : a1.tmps.getD 34 undef = _ := h34
              have f34 := getD_form e34
              clear h33 h34
              exact wp_bin .eql 65 65 (.tmp 33) (.tmp 34) rfl _ _ e33 e34 guard65 _ (hq1.out _) (left_intro rfl (Stp.refl _) trivial)
            refine ⟨?_, ?_⟩
            · rintro L a1 w1 hT - - ⟨h35, -⟩   -- 14: Op.move t35
              have e35 : a1.tmps.getD 35 undef = _ := h35
              have f35 := getD_form e35
              clear h35
              go_simp; exact left_intro rfl (Stp.refl _) trivial
            refine ⟨?_, ?_⟩
            · rintro L a1 w1 hT - - ⟨h9, h36, -⟩   -- 15: Op.load 65 t9
              have e9 : a1.tmps.getD 9 undef = _ := h9
              have f9 := getD_form e9
              have e36 : a1.tmps.getD 36 undef = _ := h36
              have f36 := getD_form e36
              clear h9 h36
              refine ⟨true, 36, by rfl, e36, ?_⟩; rw [if_pos rfl]
              exact wp_load_blkL 65 (.tmp 9) rfl _ e9 (cs := itemC n1 p1 s1 t1) B3 hT _ Try.underlying65 (by rfl) hz3 (left_intro rfl (Stp.refl _) trivial)
            refine ⟨?_, ?_⟩
            · rintro L a1 w1 hT - - ⟨h11, h36, -⟩   -- 16: Op.load 65 t11
              have e11 : a1.tmps.getD 11 undef = _ := h11
              have f11 := getD_form e11
              have e36 : a1.tmps.getD 36 undef = _ := h36
              have f36 := getD_form e36
              clear h11 h36
              refine ⟨true, 36, by rfl, e36, ?_⟩; rw [if_pos rfl]
              exact wp_load_blkL 65 (.tmp 11) rfl _ e11 (cs := itemC n3 p3 s3 t3) B5 hT _ Try.underlying65 (by rfl) hz5 (left_intro rfl (Stp.refl _) trivial)
            refine ⟨?_, ?_⟩
            · rintro L a1 w1 hT - - ⟨h37, h38, h36, -⟩   -- 17: Op.binOp BinOp.eql 65 t37 t38 65
              have e37 : a1.tmps.getD 37 undef = _ := h37
              have f37 := getD_form e37
              have e38 : a1.tmps.getD 38 undef = _ := h38
              have f38 := getD_form e38
              have e36 : a1.tmps.getD 36 undef = _ := h36
              have f36 := getD_form e36
              clear h37 h38 h36
              refine ⟨true, 36, by rfl, e36, ?_⟩; rw [if_pos rfl]
              exact wp_bin .eql 65 65 (.tmp 37) (.tmp 38) rfl _ _ e37 e38 guard65 _ (hq2.out _) (left_intro rfl (Stp.refl _) trivial)
            refine ⟨?_, ?_⟩
            · rintro L a1 w1 hT - - ⟨h36, h39, -⟩   -- 18: Op.pick t36 t39 (const (Value.bool false))
              have e36 : a1.tmps.getD 36 undef = _ := h36
              have f36 := getD_form e36
              have e39 : a1.tmps.getD 39 undef = _ := h39
              have f39 := getD_form e39
              clear h36 h39
              go_simp; exact left_intro rfl (Stp.refl _) trivial
            refine ⟨?_, ?_⟩
            · rintro L a1 w1 hT - - ⟨h32, h40, -⟩   -- 19: Op.binOp BinOp.neq 4 t32 t40 4
              have e32 : a1.tmps.getD 32 undef = _ := h32
              have f32 := getD_form e32
              have e40 : a1.tmps.getD 40 undef = _ := h40
              have f40 := getD_form e40
              clear h32 h40
              go_simp; exact left_intro rfl (Stp.refl _) trivial
            trivial
          case hmono => repeat (first | exact trivial | refine ⟨fun _ _ _ _ h => h, ?_⟩)
          case hend =>
            intro w2 hT
            rintro _ rfl _ rfl _ rfl _ rfl _ rfl _ rfl _ rfl _ rfl _ rfl _ rfl _ rfl _ rfl _ rfl _ rfl _ rfl _ rfl _ rfl _ rfl _ rfl _ rfl
            simp only [relEnd, Act.put, List.setIfInBounds_toArray, List.set_cons_succ, List.set_cons_zero]
            replace B0 := B0.at_ hT
            replace B1 := B1.at_ hT
            replace B2 := B2.at_ hT
            replace B3 := B3.at_ hT
            replace B4 := B4.at_ hT
            replace B5 := B5.at_ hT
            replace hB := hB.trans (Below.mono hT hB.size)
            clear hT
            go_wp2
            apply wp_region_rel_below [[], [(42, some 0)], [(6, none), (43, some 1)], [(44, some 2), (43, some 1)], [(8, none), (43, some 1)], [(46, some 4), (43, some 1)], [(9, none), (43, some 1)], [(48, some 6), (43, some 1)], [(47, some 5), (49, some 7), (43, some 1)], [(45, some 3), (50, some 8), (43, some 1)], [(43, some 1), (51, some 9)], [(52, some 10)], [(6, none), (53, some 11)], [(7, none), (53, some 11)], [(54, some 12), (55, some 13), (53, some 11)], [(56, some 14), (53, some 11)], [(6, none), (57, some 15)], [(58, some 16), (57, some 15)], [(7, none), (57, some 15)], [(60, some 18), (57, some 15)], [(59, some 17), (61, some 19), (57, some 15)], [(57, some 15), (62, some 20), (53, some 11)], [(53, some 11), (63, some 21)], [(64, some 22)]] [eqv _, eqv _, eqv _, eqv _, eqv _, eqv _, eqv _, eqv _, eqv _, eqv _, eqv _, eqv _, eqv _, eqv _, eqv _, eqv _, eqv _, eqv _, eqv _, eqv _, eqv _, eqv _, eqv _, eqv _] (by kernel_rfl) (by kernel_rfl)
            case hobs =>
              refine ⟨?_, ?_⟩
              · rintro L a1 w1 hT - - -   -- 0: Op.call { value (Operand.func 47), args := #[], argTypes := #[] }
                go_simp; go_at_call 47; (with_reducible refine (AA.out _).mono ?_); rintro e w2 ⟨rfl, hb⟩; exact left_intro rfl (Stp.of hb) trivial
              refine ⟨?_, ?_⟩
              · rintro L a1 w1 hT - - ⟨h42, -⟩   -- 1: Op.move t42
                have e42 : a1.tmps.getD 42 undef = _ := h42
                have f42 := getD_form e42
                clear h42
                go_simp; exact left_intro rfl (Stp.refl _) trivial
              refine ⟨?_, ?_⟩
              · rintro L a1 w1 hT - - ⟨h6, h43, -⟩   -- 2: Op.load 61 t6
                have e6 : a1.tmps.getD 6 undef = _ := h6
                have f6 := getD_form e6
                have e43 : a1.tmps.getD 43 undef = _ := h43
                have f43 := getD_form e43
                clear h6 h43
                refine ⟨true, 43, by rfl, e43, ?_⟩; rw [if_pos rfl]
                exact wp_load_blkL 61 (.tmp 6) rfl _ e6 (cs := leafC k u i) B0 hT _ Try.underlying61 (by rfl) hz0 (left_intro rfl (Stp.refl _) trivial)
              refine ⟨?_, ?_⟩
              · rintro L a1 w1 hT - - ⟨h44, h43, -⟩   -- 3: Op.call { value (Operand.func 51), args := #[t44], argTypes := #[77] }
                have e44 : a1.tmps.getD 44 undef = _ := h44
                have f44 := getD_form e44
                have e43 : a1.tmps.getD 43 undef = _ := h43
                have f43 := getD_form e43
                clear h44 h43
                refine ⟨true, 43, by rfl, e43, ?_⟩; rw [if_pos rfl]
                go_simp; go_at_call 51; (with_reducible refine (LK.out _).mono ?_); rintro e w2 ⟨rfl, hb⟩; exact left_intro rfl (Stp.of hb) trivial
              refine ⟨?_, ?_⟩
              · rintro L a1 w1 hT - - ⟨h8, h43, -⟩   -- 4: Op.load 65 t8
                have e8 : a1.tmps.getD 8 undef = _ := h8
                have f8 := getD_form e8
                have e43 : a1.tmps.getD 43 undef = _ := h43
                have f43 := getD_form e43
                clear h8 h43
                refine ⟨true, 43, by rfl, e43, ?_⟩; rw [if_pos rfl]
                exact wp_load_blkL 65 (.tmp 8) rfl _ e8 (cs := itemC n0 p0 s0 t0) B2 hT _ Try.underlying65 (by rfl) hz2 (left_intro rfl (Stp.refl _) trivial)
              refine ⟨?_, ?_⟩
              · rintro L a1 w1 hT - - ⟨h46, h43, -⟩   -- 5: Op.call { value (Operand.func 46), args := #[t46], argTypes := #[65] }
                have e46 : a1.tmps.getD 46 undef = _ := h46
                have f46 := getD_form e46
                have e43 : a1.tmps.getD 43 undef = _ := h43
                have f43 := getD_form e43
                clear h46 h43
                refine ⟨true, 43, by rfl, e43, ?_⟩; rw [if_pos rfl]
                go_simp; go_at_call 46; (with_reducible refine (T0.out _).mono ?_); rintro e w2 ⟨rfl, hb⟩; exact left_intro rfl (Stp.of hb) trivial
              refine ⟨?_, ?_⟩
              · rintro L a1 w1 hT - - ⟨h9, h43, -⟩   -- 6: Op.load 65 t9
                have e9 : a1.tmps.getD 9 undef = _ := h9
                have f9 := getD_form e9
                have e43 : a1.tmps.getD 43 undef = _ := h43
                have f43 := getD_form e43
                clear h9 h43
                refine ⟨true, 43, by rfl, e43, ?_⟩; rw [if_pos rfl]
                exact wp_load_blkL 65 (.tmp 9) rfl _ e9 (cs := itemC n1 p1 s1 t1) B3 hT _ Try.underlying65 (by rfl) hz3 (left_intro rfl (Stp.refl _) trivial)
              refine ⟨?_, ?_⟩
              · rintro L a1 w1 hT - - ⟨h48, h43, -⟩   -- 7: Op.call { value (Operand.func 46), args := #[t48], argTypes := #[65] }
                have e48 : a1.tmps.getD 48 undef = _ := h48
                have f48 := getD_form e48
                have e43 : a1.tmps.getD 43 undef = _ := h43
                have f43 := getD_form e43
                clear h48 h43
                refine ⟨true, 43, by rfl, e43, ?_⟩; rw [if_pos rfl]
                go_simp; go_at_call 46; (with_reducible refine (T1.out _).mono ?_); rintro e w2 ⟨rfl, hb⟩; exact left_intro rfl (Stp.of hb) trivial
              refine ⟨?_, ?_⟩
              · rintro L a1 w1 hT - - ⟨h47, h49, h43, -⟩   -- 8: Op.call { value (Operand.func 52), args := #[t47, t49], argTypes := #[72, 72] }
                have e47 : a1.tmps.getD 47 undef = _ := h47
                have f47 := getD_form e47
                have e49 : a1.tmps.getD 49 undef = _ := h49
                have f49 := getD_form e49
                have e43 : a1.tmps.getD 43 undef = _ := h43
                have f43 := getD_form e43
                clear h47 h49 h43
                refine ⟨true, 43, by rfl, e43, ?_⟩; rw [if_pos rfl]
                go_simp; go_at_call 52; (with_reducible refine (I01.out _).mono ?_); rintro e w2 ⟨rfl, hb⟩; exact left_intro rfl (Stp.of hb) trivial
              refine ⟨?_, ?_⟩
              · rintro L a1 w1 hT - - ⟨h45, h50, h43, -⟩   -- 9: Op.binOp BinOp.neq 9 t45 t50 9
                have e45 : a1.tmps.getD 45 undef = _ := h45
                have f45 := getD_form e45
                have e50 : a1.tmps.getD 50 undef = _ := h50
                have f50 := getD_form e50
                have e43 : a1.tmps.getD 43 undef = _ := h43
                have f43 := getD_form e43
                clear h45 h50 h43
                refine ⟨true, 43, by rfl, e43, ?_⟩; rw [if_pos rfl]
                go_simp; exact left_intro rfl (Stp.refl _) trivial
              refine ⟨?_, ?_⟩
              · rintro L a1 w1 hT - - ⟨h43, h51, -⟩   -- 10: Op.pick t43 t51 (const (Value.bool false))
                have e43 : a1.tmps.getD 43 undef = _ := h43
                have f43 := getD_form e43
                have e51 : a1.tmps.getD 51 undef = _ := h51
                have f51 := getD_form e51
                clear h43 h51
                go_simp; exact left_intro rfl (Stp.refl _) trivial
              refine ⟨?_, ?_⟩
              · rintro L a1 w1 hT - - ⟨h52, -⟩   -- 11: Op.move t52
                have e52 : a1.tmps.getD 52 undef = _ := h52
                have f52 := getD_form e52
                clear h52
                go_simp; exact left_intro rfl (Stp.refl _) trivial
              refine ⟨?_, ?_⟩
              · rintro L a1 w1 hT - - ⟨h6, h53, -⟩   -- 12: Op.load 61 t6
                have e6 : a1.tmps.getD 6 undef = _ := h6
                have f6 := getD_form e6
                have e53 : a1.tmps.getD 53 undef = _ := h53
                have f53 := getD_form e53
                clear h6 h53
                refine ⟨true, 53, by rfl, e53, ?_⟩; rw [if_pos rfl]
                exact wp_load_blkL 61 (.tmp 6) rfl _ e6 (cs := leafC k u i) B0 hT _ Try.underlying61 (by rfl) hz0 (left_intro rfl (Stp.refl _) trivial)
              refine ⟨?_, ?_⟩
              · rintro L a1 w1 hT - - ⟨h7, h53, -⟩   -- 13: Op.load 61 t7
                have e7 : a1.tmps.getD 7 undef = _ := h7
                have f7 := getD_form e7
                have e53 : a1.tmps.getD 53 undef = _ := h53
                have f53 := getD_form e53
                clear h7 h53
                refine ⟨true, 53, by rfl, e53, ?_⟩; rw [if_pos rfl]
                exact wp_load_blkL 61 (.tmp 7) rfl _ e7 (cs := leafC l v j) B1 hT _ Try.underlying61 (by rfl) hz1 (left_intro rfl (Stp.refl _) trivial)
              refine ⟨?_, ?_⟩
              · rintro L a1 w1 hT - - ⟨h54, h55, h53, -⟩   -- 14: Op.binOp BinOp.neq 61 t54 t55 61
                have e54 : a1.tmps.getD 54 undef = _ := h54
                have f54 := getD_form e54
                have e55 : a1.tmps.getD 55 undef = _ := h55
                have f55 := getD_form e55
                have e53 : a1.tmps.getD 53 undef = _ := h53
                have f53 := getD_form e53
                clear h54 h55 h53
                refine ⟨true, 53, by rfl, e53, ?_⟩; rw [if_pos rfl]
                exact wp_bin .neq 61 61 (.tmp 54) (.tmp 55) rfl _ _ e54 e55 guard61 _ (hnq0.out _) (left_intro rfl (Stp.refl _) trivial)
              refine ⟨?_, ?_⟩
              · rintro L a1 w1 hT - - ⟨h56, h53, -⟩   -- 15: Op.move t56
                have e56 : a1.tmps.getD 56 undef = _ := h56
                have f56 := getD_form e56
                have e53 : a1.tmps.getD 53 undef = _ := h53
                have f53 := getD_form e53
                clear h56 h53
                refine ⟨true, 53, by rfl, e53, ?_⟩; rw [if_pos rfl]
                go_simp; exact left_intro rfl (Stp.refl _) trivial
              refine ⟨?_, ?_⟩
              · rintro L a1 w1 hT - - ⟨h6, h57, -⟩   -- 16: Op.load 61 t6
                have e6 : a1.tmps.getD 6 undef = _ := h6
                have f6 := getD_form e6
                have e57 : a1.tmps.getD 57 undef = _ := h57
                have f57 := getD_form e57
                clear h6 h57
                refine ⟨false, 57, by rfl, e57, ?_⟩; rw [if_pos rfl]
                exact wp_load_blkL 61 (.tmp 6) rfl _ e6 (cs := leafC k u i) B0 hT _ Try.underlying61 (by rfl) hz0 (left_intro rfl (Stp.refl _) trivial)
              refine ⟨?_, ?_⟩
              · rintro L a1 w1 hT - - ⟨h58, h57, -⟩   -- 17: Op.call { value (Operand.func 53), args := #[t58], argTypes := #[61] }
                have e58 : a1.tmps.getD 58 undef = _ := h58
                have f58 := getD_form e58
                have e57 : a1.tmps.getD 57 undef = _ := h57
                have f57 := getD_form e57
                clear h58 h57
                refine ⟨false, 57, by rfl, e57, ?_⟩; rw [if_pos rfl]
                go_simp; go_at_call 53; (with_reducible refine (IK.out _).mono ?_); rintro e w2 ⟨rfl, hb⟩; exact left_intro rfl (Stp.of hb) trivial
              refine ⟨?_, ?_⟩
              · rintro L a1 w1 hT - - ⟨h7, h57, -⟩   -- 18: Op.load 61 t7
                have e7 : a1.tmps.getD 7 undef = _ := h7
                have f7 := getD_form e7
                have e57 : a1.tmps.getD 57 undef = _ := h57
                have f57 := getD_form e57
                clear h7 h57
                refine ⟨false, 57, by rfl, e57, ?_⟩; rw [if_pos rfl]
                exact wp_load_blkL 61 (.tmp 7) rfl _ e7 (cs := leafC l v j) B1 hT _ Try.underlying61 (by rfl) hz1 (left_intro rfl (Stp.refl _) trivial)
              refine ⟨?_, ?_⟩
              · rintro L a1 w1 hT - - ⟨h60, h57, -⟩   -- 19: Op.call { value (Operand.func 53), args := #[t60], argTypes := #[61] }
                have e60 : a1.tmps.getD 60 undef = _ := h60
                have f60 := getD_form e60
                have e57 : a1.tmps.getD 57 undef = _ := h57
                have f57 := getD_form e57
                clear h60 h57
                refine ⟨false, 57, by rfl, e57, ?_⟩; rw [if_pos rfl]
                go_simp; go_at_call 53; (with_reducible refine (IL.out _).mono ?_); rintro e w2 ⟨rfl, hb⟩; exact left_intro rfl (Stp.of hb) trivial
              refine ⟨?_, ?_⟩
              · rintro L a1 w1 hT - - ⟨h59, h61, h57, -⟩   -- 20: Op.binOp BinOp.eql 65 t59 t61 65
                have e59 : a1.tmps.getD 59 undef = _ := h59
                have f59 := getD_form e59
                have e61 : a1.tmps.getD 61 undef = _ := h61
                have f61 := getD_form e61
                have e57 : a1.tmps.getD 57 undef = _ := h57
                have f57 := getD_form e57
                clear h59 h61 h57
                refine ⟨false, 57, by rfl, e57, ?_⟩; rw [if_pos rfl]
                exact wp_bin .eql 65 65 (.tmp 59) (.tmp 61) rfl _ _ e59 e61 guard65 _ (hsq0.out _) (left_intro rfl (Stp.refl _) trivial)
              refine ⟨?_, ?_⟩
              · rintro L a1 w1 hT - - ⟨h57, h62, h53, -⟩   -- 21: Op.pick t57 (const (Value.bool true)) t62
                have e57 : a1.tmps.getD 57 undef = _ := h57
                have f57 := getD_form e57
                have e62 : a1.tmps.getD 62 undef = _ := h62
                have f62 := getD_form e62
                have e53 : a1.tmps.getD 53 undef = _ := h53
                have f53 := getD_form e53
                clear h57 h62 h53
                refine ⟨true, 53, by rfl, e53, ?_⟩; rw [if_pos rfl]
                go_simp; exact left_intro rfl (Stp.refl _) trivial
              refine ⟨?_, ?_⟩
              · rintro L a1 w1 hT - - ⟨h53, h63, -⟩   -- 22: Op.pick t53 t63 (const (Value.bool false))
                have e53 : a1.tmps.getD 53 undef = _ := h53
                have f53 := getD_form e53
                have e63 : a1.tmps.getD 63 undef = _ := h63
                have f63 := getD_form e63
                clear h53 h63
                go_simp; exact left_intro rfl (Stp.refl _) trivial
              refine ⟨?_, ?_⟩
              · rintro L a1 w1 hT - - ⟨h64, -⟩   -- 23: Op.assign t64
                have e64 : a1.tmps.getD 64 undef = _ := h64
                have f64 := getD_form e64
                clear h64
                go_simp; exact left_intro rfl (Stp.refl _) trivial
              trivial
            case hmono => repeat (first | exact trivial | refine ⟨fun _ _ _ _ h => h, ?_⟩)
            case hend =>
              intro w2 hT
              rintro _ rfl _ rfl _ rfl _ rfl _ rfl _ rfl _ rfl _ rfl _ rfl _ rfl _ rfl _ rfl _ rfl _ rfl _ rfl _ rfl _ rfl _ rfl _ rfl _ rfl _ rfl _ rfl _ rfl _ rfl
              simp only [relEnd, Act.put, List.setIfInBounds_toArray, List.set_cons_succ, List.set_cons_zero]
              replace B0 := B0.at_ hT
              replace B1 := B1.at_ hT
              replace B2 := B2.at_ hT
              replace B3 := B3.at_ hT
              replace B4 := B4.at_ hT
              replace B5 := B5.at_ hT
              replace hB := hB.trans (Below.mono hT hB.size)
              clear hT
              go_wp2
              go_ret
              exact ⟨rfl, hB⟩
end Go.Proofs.Ytgjmnhbkdccgpaa

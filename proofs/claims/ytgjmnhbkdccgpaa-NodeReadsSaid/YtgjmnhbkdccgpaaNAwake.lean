/- The walk of chirographlaw15.awake. -/
import Derived.Test.YtgjmnhbkdccgpaaWNBytes
namespace Go.Proofs.Ytgjmnhbkdccgpaa
open Go.RowKit

/-- A field of a struct, as one step. -/
theorem wpList_fieldS {P : Program} {ops : Array Oper} {rest : List Oper} {o : Oper} {a : Act} {w : World} {Q : Exit → Act → World → Prop} (hw : Region.wanted o (yielded ops a.tmps) = true) (xt : TypeId) (x : Operand) (f : Nat) (ho : o.op = .field xt x f)
    (u : Value) (hx : a.eval x = u) (v : Value) (hr : ∀ w, (Instr.field xt u f).run P w = .ok v w) (hk : wpList P ops Q rest (a.put o.dst v) w) : wpList P ops Q (o :: rest) a w :=
  BigFrame.wpList_want hw fun _ hK => by
    unfold Oper.wp execOp
    simp only [ho, hx, hr, Sem.run_bind, Result.andThen_ok, Sem.run_pure]
    exact hK _ _ hk
theorem field_pre (n t : Int) (p s : List UInt8) (hp : p.length = 32) (hs : s.length = 32) (w : World) : (Instr.field 65 (.agg (itemC n p s t).toArray) 0).run Try.prog w = .ok (.agg (prefA n p)) w := by
  obtain ⟨a0, a1, a2, a3, a4, a5, a6, a7, a8, a9, a10, a11, a12, a13, a14, a15, a16, a17, a18, a19, a20, a21, a22, a23, a24, a25, a26, a27, a28, a29, a30, a31, rfl⟩ := lab32 p hp
  obtain ⟨b0, b1, b2, b3, b4, b5, b6, b7, b8, b9, b10, b11, b12, b13, b14, b15, b16, b17, b18, b19, b20, b21, b22, b23, b24, b25, b26, b27, b28, b29, b30, b31, rfl⟩ := lab32 s hs
  kernel_rfl
theorem field_at (n t : Int) (p s : List UInt8) (hp : p.length = 32) (hs : s.length = 32) (w : World) : (Instr.field 65 (.agg (itemC n p s t).toArray) 2).run Try.prog w = .ok (.int .i64 t) w := by
  obtain ⟨a0, a1, a2, a3, a4, a5, a6, a7, a8, a9, a10, a11, a12, a13, a14, a15, a16, a17, a18, a19, a20, a21, a22, a23, a24, a25, a26, a27, a28, a29, a30, a31, rfl⟩ := lab32 p hp
  obtain ⟨b0, b1, b2, b3, b4, b5, b6, b7, b8, b9, b10, b11, b12, b13, b14, b15, b16, b17, b18, b19, b20, b21, b22, b23, b24, b25, b26, b27, b28, b29, b30, b31, rfl⟩ := lab32 s hs
  kernel_rfl
theorem field_len (n : Int) (p : List UInt8) (hp : p.length = 32) (w : World) : (Instr.field 63 (.agg (prefA n p)) 0).run Try.prog w = .ok (.int .i64 n) w := by
  obtain ⟨a0, a1, a2, a3, a4, a5, a6, a7, a8, a9, a10, a11, a12, a13, a14, a15, a16, a17, a18, a19, a20, a21, a22, a23, a24, a25, a26, a27, a28, a29, a30, a31, rfl⟩ := lab32 p hp
  kernel_rfl
def lab80 : List UInt8 := 128 :: List.replicate 31 0
theorem build_lab80 (w : World) : (Instr.build 25 #[(0, .int .u8 128)]).run Try.prog w = .ok (.agg (labA lab80)) w := by kernel_rfl
theorem build_leaf0 (w : World) : (Instr.build 61 #[]).run Try.prog w = .ok (.agg (leafC zlab zlab 0).toArray) w := by kernel_rfl
theorem build_leaf3 (w : World) : (Instr.build 61 #[(0, .agg (labA lab80)), (2, .int .i64 3)]).run Try.prog w = .ok (.agg (leafC lab80 zlab 3).toArray) w := by kernel_rfl
theorem build_inner (n t n' t' : Int) (p s p' s' : List UInt8) (hp : p.length = 32) (hs : s.length = 32) (hp' : p'.length = 32) (hs' : s'.length = 32) (w : World) :
    (Instr.build 69 #[(0, .agg (itemC n p s t).toArray), (1, .agg (itemC n' p' s' t').toArray)]).run Try.prog w = .ok (.agg (innerC n p s t n' p' s' t').toArray) w := by
  obtain ⟨a0, a1, a2, a3, a4, a5, a6, a7, a8, a9, a10, a11, a12, a13, a14, a15, a16, a17, a18, a19, a20, a21, a22, a23, a24, a25, a26, a27, a28, a29, a30, a31, rfl⟩ := lab32 p hp
  obtain ⟨b0, b1, b2, b3, b4, b5, b6, b7, b8, b9, b10, b11, b12, b13, b14, b15, b16, b17, b18, b19, b20, b21, b22, b23, b24, b25, b26, b27, b28, b29, b30, b31, rfl⟩ := lab32 s hs
  obtain ⟨c0, c1, c2, c3, c4, c5, c6, c7, c8, c9, c10, c11, c12, c13, c14, c15, c16, c17, c18, c19, c20, c21, c22, c23, c24, c25, c26, c27, c28, c29, c30, c31, rfl⟩ := lab32 p' hp'
  obtain ⟨d0, d1, d2, d3, d4, d5, d6, d7, d8, d9, d10, d11, d12, d13, d14, d15, d16, d17, d18, d19, d20, d21, d22, d23, d24, d25, d26, d27, d28, d29, d30, d31, rfl⟩ := lab32 s' hs'
  kernel_rfl
theorem awakeE : D.innerE 256 zlab 0 256 lab80 3 = 0 := by decide +kernel
theorem awakeC : B.cmn zlab lab80 = 0 := by decide +kernel
theorem awakeO : D.leafO zlab zlab 0 = List.replicate 66 0 := by decide +kernel
theorem sum18_any (W : World) : Calls Try.prog 20 #[.string ⟨([18] : List UInt8).toArray⟩] W fun e w' => e = .returned (.agg (labA (S.sum [18]))) ∧ Below W.heap.size W w' := sum_any [18] W (by decide)
set_option maxRecDepth 100000 in
set_option maxHeartbeats 2000000 in
theorem nawake_any (w : World) :
    Calls Try.prog 47 #[] w fun e w' => e = .returned (.bool true) ∧ Below w.heap.size w w' := by
  have hl0 : zlab.length = 32 := rfl
  have hl8 : lab80.length = 32 := rfl
  have LA := Lib.hid (fun W => leafItem_any zlab zlab 0 hl0 hl0 W)
  have LB := Lib.hid (fun W => leafItem_any lab80 zlab 3 hl8 hl0 W)
  have hsa := S.sum_length (D.leafT zlab zlab 0)
  have hsb := S.sum_length (D.leafT lab80 zlab 3)
  have BY := Lib.hid (fun W => nbytesLeaf_any zlab zlab 0 hl0 hl0 W)
  rw [awakeO, show D.leafE 0 = 0 from rfl] at BY
  generalize S.sum (D.leafT zlab zlab 0) = sa at *
  generalize S.sum (D.leafT lab80 zlab 3) = sb at *
  have CK := Lib.hid (fun W => chkInner_any 256 zlab sa 0 256 lab80 sb 3 (by decide) (by decide) hl0 hsa hl8 hsb W)
  rw [awakeE] at CK
  have IT := Lib.hid (fun W => innerItem_any 256 zlab sa 0 256 lab80 sb 3 hl0 hsa hl8 hsb W)
  rw [awakeC, show ((0 : Nat) : Int) = 0 from rfl, show max (0 : Int) 3 = 3 from rfl] at IT
  have hlq := B.cut_length zlab 0
  have hls := S.sum_length (D.innerT (D.itemT 256 zlab sa 0) (D.itemT 256 lab80 sb 3))
  generalize S.sum (D.innerT (D.itemT 256 zlab sa 0) (D.itemT 256 lab80 sb 3)) = sm at *
  generalize B.cut zlab 0 = q at *
  have EE := Lib.hid (fun W => empty_any W)
  have SS := Lib.hid (fun W => sum18_any W)
  have h18 := S.sum_length [18]
  generalize S.sum [18] = m18 at *
  have hcA := leafC_length zlab zlab 0 hl0 hl0
  have hcB := leafC_length lab80 zlab 3 hl8 hl0
  have hzA : (Try.prog.info? 61).map (·.size) = some (leafC zlab zlab 0).toArray.size := by rw [List.size_toArray, hcA]; exact info_leaf
  have hzB : (Try.prog.info? 61).map (·.size) = some (leafC lab80 zlab 3).toArray.size := by rw [List.size_toArray, hcB]; exact info_leaf
  have hzA' : (Try.prog.info? 61).map (·.size) = some (leafC zlab zlab 0).length := by rw [hcA]; exact info_leaf
  have hzB' : (Try.prog.info? 61).map (·.size) = some (leafC lab80 zlab 3).length := by rw [hcB]; exact info_leaf
  have spA := splice_all (leafC zlab zlab 0).toArray (leafC zlab zlab 0).toArray rfl
  have spB := splice_all (leafC zlab zlab 0).toArray (leafC lab80 zlab 3).toArray (by rw [List.size_toArray, List.size_toArray, hcA, hcB])
  have fA : 0 + (leafC zlab zlab 0).toArray.size ≤ (leafC zlab zlab 0).toArray.size := by omega
  have fB : 0 + (leafC lab80 zlab 3).toArray.size ≤ (leafC zlab zlab 0).toArray.size := by rw [List.size_toArray, List.size_toArray, hcA, hcB]; decide
  have oA := leafC_one zlab zlab 0
  have oB := leafC_one lab80 zlab 3
  have szI := innerC_size 256 zlab sa 0 256 lab80 sb 3 hl0 hsa hl8 hsb
  have szZ := innerC_size 0 zlab zlab 0 0 zlab zlab 0 rfl rfl rfl rfl
  have hzI : (Try.prog.info? 69).map (·.size) = some (innerC 256 zlab sa 0 256 lab80 sb 3).toArray.size := by rw [szI]; exact info_inner
  have spI := splice_all (innerC 0 zlab zlab 0 0 zlab zlab 0).toArray (innerC 256 zlab sa 0 256 lab80 sb 3).toArray (by rw [szI, szZ])
  have fI : 0 + (innerC 256 zlab sa 0 256 lab80 sb 3).toArray.size ≤ (innerC 0 zlab zlab 0 0 zlab zlab 0).toArray.size := by rw [szI, szZ]; decide
  have oI := innerC_one 256 zlab sa 0 256 lab80 sb 3
  have he18 : ∀ W : World, (binOp .eql 25 (.agg (labA m18)) (.agg (labA m18))).run Try.prog W = .ok (.bool true) W := fun W => (eql23 m18 m18 h18 h18 W).trans (by rw [beq_self_eq_true])
  have hbd := build_inner 256 0 256 3 zlab sa lab80 sb hl0 hsa hl8 hsb
  have B1 := (Blk.new w (leafC zlab zlab 0).toArray 61).alloc (.cells (leafC zlab zlab 0).toArray 61)
  have B2 := blk_new1 w (.cells (leafC zlab zlab 0).toArray 61) (leafC zlab zlab 0).toArray 61
  have hB := (below_alloc1 w (.cells (leafC zlab zlab 0).toArray 61)).alloc (o := .cells (leafC zlab zlab 0).toArray 61) (by simp)
  go_enter Try.func47, Try.ntmps47
  go_wp2_with (first | (refine wpList_build (by rfl) 61 ([]) (by rfl) ([]) (by rfl) (.agg (leafC zlab zlab 0).toArray) (build_leaf0) ?_; simp only [Act.put, List.setIfInBounds_toArray, List.set_cons_succ, List.set_cons_zero]) | (refine wpList_build (by rfl) 25 ([(0, .const (.int .u8 128))]) (by rfl) ([(0, .int .u8 128)]) (by rfl) (.agg (labA lab80)) (build_lab80) ?_; simp only [Act.put, List.setIfInBounds_toArray, List.set_cons_succ, List.set_cons_zero]) | (refine wpList_build (by rfl) 61 ([(0, .tmp 7), (2, .const (.int .i64 3))]) (by rfl) ([(0, .agg (labA lab80)), (2, .int .i64 3)]) (by rfl) (.agg (leafC lab80 zlab 3).toArray) (build_leaf3) ?_; simp only [Act.put, List.setIfInBounds_toArray, List.set_cons_succ, List.set_cons_zero]) | (refine wpList_fresh (by rfl) 61 (by rfl) _ fresh_leaf ?_; simp only [Act.put, List.setIfInBounds_toArray, List.set_cons_succ, List.set_cons_zero]; try simp only [World.size_alloc]) | ((refine wpList_store_blk (by rfl) 61 (.tmp 1) (.tmp 6) (by rfl) (0) ((leafC zlab zlab 0).toArray) (by rfl) (by rfl) (B1) (fA) hzA (oA) ?_; simp only [Act.put]); intro w1 b1 o1; rw [spA] at b1; have c2 := B2.only o1 (by omega); have hB1 := o1.below hB (Nat.le_refl _)) | ((refine wpList_store_blk (by rfl) 61 (.tmp 2) (.tmp 8) (by rfl) (0) ((leafC lab80 zlab 3).toArray) (by rfl) (by rfl) (c2) (fB) hzB (oB) ?_; simp only [Act.put]); intro w0 b2 o2; rw [spB] at b2; replace b1 := b1.only o2 (by omega); have hB2 := o2.below hB1 (by omega)))
  have n12 : w.heap.size < w.heap.size + 1 := by omega
  clear B1 B2 hB c2 o1 hB1 o2 fA fB spA spB
  clear w1
  have hg0 : w.heap.size ≤ w.heap.size := Nat.le_refl _
  generalize hga : w.heap.size = ga at *
  generalize hgb : ga + 1 = gb at *
  have hlt1 : ga < w0.drew.heap.size := b1.lt
  have hlt2 : gb < w0.drew.heap.size := b2.lt
  have r1 : w0.drew.rangeAt ga 0 (leafC zlab zlab 0) := blk_rangeL (o := 0) b1.drew (fun j u h => by rw [Nat.zero_add]; exact h)
  have r2 : w0.drew.rangeAt gb 0 (leafC lab80 zlab 3) := blk_rangeL (o := 0) b2.drew (fun j u h => by rw [Nat.zero_add]; exact h)
  apply wp_region_rel_below_tail 6 [[(1, none)], [(9, some 0)], [(2, none)], [(11, some 2)], [(10, some 1), (12, some 3)], []] [eqv _, eqv _, eqv _, eqv _, eqv _, ptrBlk w0.heap.size (innerC 0 zlab zlab 0 0 zlab zlab 0).toArray 69] (by kernel_rfl) (by kernel_rfl)
  case hobs =>
    refine ⟨?_, ?_⟩
    · rintro L a1 w1 hT - - ⟨h1, -⟩   -- 0: Op.load 61 t1
      have e1 : a1.tmps.getD 1 undef = _ := h1
      have f1 := getD_form e1
      clear h1
      exact wp_load_mid 61 (.tmp 1) rfl ga 0 e1 (leafC zlab zlab 0) _ (range_stp r1 hlt1 hT) Try.underlying61 (by rfl) hzA' (left_intro rfl (Stp.refl _) trivial)
    refine ⟨?_, ?_⟩
    · rintro L a1 w1 hT - - ⟨h9, -⟩   -- 1: Op.call { value (Operand.func 53), args := #[t9], argTypes := #[61] }
      have e9 : a1.tmps.getD 9 undef = _ := h9
      have f9 := getD_form e9
      clear h9
      go_simp; go_at_call 53; (with_reducible refine (LA.out _).mono ?_); rintro e w2 ⟨rfl, hb⟩; exact left_intro rfl (Stp.of hb) trivial
    refine ⟨?_, ?_⟩
    · rintro L a1 w1 hT - - ⟨h2, -⟩   -- 2: Op.load 61 t2
      have e2 : a1.tmps.getD 2 undef = _ := h2
      have f2 := getD_form e2
      clear h2
      exact wp_load_mid 61 (.tmp 2) rfl gb 0 e2 (leafC lab80 zlab 3) _ (range_stp r2 hlt2 hT) Try.underlying61 (by rfl) hzB' (left_intro rfl (Stp.refl _) trivial)
    refine ⟨?_, ?_⟩
    · rintro L a1 w1 hT - - ⟨h11, -⟩   -- 3: Op.call { value (Operand.func 53), args := #[t11], argTypes := #[61] }
      have e11 : a1.tmps.getD 11 undef = _ := h11
      have f11 := getD_form e11
      clear h11
      go_simp; go_at_call 53; (with_reducible refine (LB.out _).mono ?_); rintro e w2 ⟨rfl, hb⟩; exact left_intro rfl (Stp.of hb) trivial
    refine ⟨?_, ?_⟩
    · rintro L a1 w1 hT - - ⟨h10, h12, -⟩   -- 4: Op.build 69 #[(0, t10), (1, t12)]
      have e10 : a1.tmps.getD 10 undef = _ := h10
      have f10 := getD_form e10
      have e12 : a1.tmps.getD 12 undef = _ := h12
      have f12 := getD_form e12
      clear h10 h12
      have hv8 : [(0, a1.tmps.getD 10 undef), (1, a1.tmps.getD 12 undef)] = [(0, Value.agg (itemC 256 zlab sa 0).toArray), (1, .agg (itemC 256 lab80 sb 3).toArray)] := by rw [e10, e12]
      exact wp_buildS 69 [(0, .tmp 10), (1, .tmp 12)] rfl _ hv8 _ hbd (left_intro rfl (Stp.refl _) trivial)
    refine ⟨?_, ?_⟩
    · rintro L a1 w1 hT - - -   -- 5: Op.alloc 69
      have h9 : Below w0.drew.heap.size w0.drew w1 := hT
      have hz14 : w0.heap.size ≤ w1.heap.size := h9.size
      exact wp_freshS 69 rfl (innerC 0 zlab zlab 0 0 zlab zlab 0).toArray fresh_inner (left_intro (T := Stp) (Ph := fun _ _ _ => True) ⟨_, rfl, hz14, Blk.new _ _ _⟩ (Stp.alloc _ _) trivial)
    trivial
  case hmono => repeat (first | exact trivial | refine ⟨fun _ _ _ _ h => h, ?_⟩ | refine ⟨mono_blkRow _ _ _ _, ?_⟩ | refine ⟨mono_ptrBlk _ _ _, ?_⟩)
  case hend =>
    intro w2 hT
    rintro _ rfl _ rfl _ rfl _ rfl _ rfl v3 ⟨g3, rfl, hg3, B3⟩
    simp only [Act.put, List.setIfInBounds_toArray, List.set_cons_succ, List.set_cons_zero, List.drop_succ_cons, List.drop_zero]
    have b4 := Blk.at_ (w := w0) b1 hT
    have hB4 := hB2.trans (Below.mono hT (by have := hB2.size; omega))
    have hl1 : ga < w0.heap.size := hlt1
    clear b1 b2 r1 r2 hT hB2
    go_wp2_with (first | ((refine wpList_store_blk (by rfl) 69 (.tmp 3) (.tmp 13) (by rfl) (0) ((innerC 256 zlab sa 0 256 lab80 sb 3).toArray) (by rfl) (by rfl) (B3) (fI) hzI (oI) ?_; simp only [Act.put]); intro w5 b5 o5; rw [spI] at b5; have b6 := b4.only o5 (by omega); have hB5 := o5.below hB4 (by omega)) | (refine wpList_load_blk (by rfl) 61 (.tmp 1) (by rfl) 0 (by rfl) (b6) ((leafC zlab zlab 0).toArray) whole_at _ Try.underlying61 (by rfl) hzA ?_; simp only [Act.put, List.setIfInBounds_toArray, List.set_cons_succ, List.set_cons_zero]) | ((go_at_call 44; (with_reducible refine (BY.out _).mono ?_)); rintro e w6 ⟨rfl, h6⟩; have b7 := b5.at_ h6; have hB6 := hB5.trans (h6.mono (by have := hB5.size; omega))) | ((refine wpList_load_blk (by rfl) 69 (.tmp 3) (by rfl) 0 (by rfl) (b7) ((innerC 256 zlab sa 0 256 lab80 sb 3).toArray) whole_at _ Try.underlying69 (by rfl) hzI ?_; simp only [Act.put, List.setIfInBounds_toArray, List.set_cons_succ, List.set_cons_zero])) | ((go_at_call 69; (with_reducible refine (CK.out _).mono ?_)); rintro e w7 ⟨rfl, h7⟩; replace b7 := b7.at_ h7; replace hB6 := hB6.trans (h7.mono (by have := hB6.size; omega))) | ((go_at_call 78; (with_reducible refine (IT.out _).mono ?_)); rintro e w8 ⟨rfl, h8⟩; replace b7 := b7.at_ h8; replace hB6 := hB6.trans (h8.mono (by have := hB6.size; omega))) | (refine wpList_fieldS (by rfl) 65 (.tmp 26) 0 (by rfl) _ (by rfl) _ (field_pre 0 3 q sm hlq hls) ?_; simp only [Act.put, List.setIfInBounds_toArray, List.set_cons_succ, List.set_cons_zero]) | (refine wpList_fieldS (by rfl) 63 (.tmp 27) 0 (by rfl) _ (by rfl) _ (field_len 0 q hlq) ?_; simp only [Act.put, List.setIfInBounds_toArray, List.set_cons_succ, List.set_cons_zero]) | (refine wpList_fieldS (by rfl) 65 (.tmp 33) 2 (by rfl) _ (by rfl) _ (field_at 0 3 q sm hlq hls) ?_; simp only [Act.put, List.setIfInBounds_toArray, List.set_cons_succ, List.set_cons_zero]) | ((go_at_call 79; (with_reducible refine (EE.out _).mono ?_)); rintro e w9 ⟨rfl, h9⟩; replace hB6 := hB6.trans (h9.mono (by have := hB6.size; omega))) | ((go_at_call 20; (with_reducible refine (SS.out _).mono ?_)); rintro e w10 ⟨rfl, h10⟩; replace hB6 := hB6.trans (h10.mono (by have := hB6.size; omega))) | (refine wpList_bin (by rfl) .eql 25 25 (.tmp 47) (.tmp 48) (by rfl) (labA m18) (labA m18) (by rfl) (by rfl) guard23 (.bool true) (he18 _) ?_; simp only [Act.put, List.setIfInBounds_toArray, List.set_cons_succ, List.set_cons_zero]))
    go_ret
    exact ⟨rfl, by rw [hga]; exact hB6⟩
end Go.Proofs.Ytgjmnhbkdccgpaa

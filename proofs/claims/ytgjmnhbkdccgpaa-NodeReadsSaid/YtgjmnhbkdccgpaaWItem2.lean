/- The walks of nodes' items, and of Empty. -/
import Derived.Test.YtgjmnhbkdccgpaaWItem
namespace Go.Proofs.Ytgjmnhbkdccgpaa
open Go.RowKit

/-- A struct put together, as one step. -/
theorem wp_buildS {P : Program} {o : Oper} {a : Act} {w : World} {Q : Exit → Act → World → Prop} {K : Act → World → Prop} (ty : TypeId) (ps : List (Nat × Operand)) (ho : o.op = .build ty ps.toArray)
    (vs : List (Nat × Value)) (hv : ps.map (fun p => (p.1, a.eval p.2)) = vs) (v : Value) (hr : ∀ w, (Instr.build ty vs.toArray).run P w = .ok v w) (hk : K (a.put o.dst v) w) : o.wp P a w K Q := by
  have hv' : (ps.toArray.map fun (i, x) => (i, a.eval x)) = vs.toArray := by rw [List.map_toArray, ← hv]
  unfold Oper.wp execOp
  simp only [ho, hv', hr, Sem.run_bind, Result.andThen_ok, Sem.run_pure]
  exact hk
/-- A new variable, as one step. -/
theorem wp_freshS {P : Program} {o : Oper} {a : Act} {w : World} {Q : Exit → Act → World → Prop} {K : Act → World → Prop} (ty : TypeId) (ho : o.op = .alloc ty) (z : Array Value)
    (hr : ∀ w : World, (Instr.alloc ty true (.tuple #[])).run P w = .ok (.pointer (some ⟨w.heap.size, 0, none⟩)) (w.alloc (.cells z ty))) (hk : K (a.put o.dst (.pointer (some ⟨w.heap.size, 0, none⟩))) (w.alloc (.cells z ty))) : o.wp P a w K Q := by
  unfold Oper.wp execOp
  simp only [ho, hr, Sem.run_bind, Result.andThen_ok, Sem.run_pure]
  exact hk
/-- A pointer to a variable made in the region. -/
def ptrBlk (g0 : Nat) (z : Array Value) (t : TypeId) : Value → World → Prop := fun v w => ∃ b, v = .pointer (some ⟨b, 0, none⟩) ∧ g0 ≤ b ∧ Blk w b z t
theorem mono_ptrBlk (g0 : Nat) (z : Array Value) (t : TypeId) : ∀ v w w', Stp w w' → ptrBlk g0 z t v w → ptrBlk g0 z t v w' := fun _ _ _ hs ⟨b, e, h0, h⟩ => ⟨b, e, h0, h.at_ hs⟩
theorem fresh_item (w : World) : (Instr.alloc 65 true (.tuple #[])).run Try.prog w = .ok (.pointer (some ⟨w.heap.size, 0, none⟩)) (w.alloc (.cells (itemC 0 zlab zlab 0).toArray 65)) := by kernel_rfl
theorem cut256_any (l : List UInt8) (hl : l.length = 32) (w : World) : Calls Try.prog 83 #[.agg (labA l), .int .i64 256] w fun e w' => e = .returned (.agg (prefA 256 l)) ∧ Below w.heap.size w w' := by
  have h := cut_any l hl 256 w
  rw [show min (256 : Int).toNat 256 = 256 from rfl, B.cut_all l hl] at h
  exact h
theorem cutN_any (l : List UInt8) (hl : l.length = 32) (n : Nat) (hn : n ≤ 256) (w : World) : Calls Try.prog 83 #[.agg (labA l), .int .i64 (n : Int)] w fun e w' => e = .returned (.agg (prefA (n : Int) (B.cut l n))) ∧ Below w.heap.size w w' := by
  have h := cut_any l hl (n : Int) w
  rw [Int.toNat_natCast, Nat.min_eq_left hn] at h
  exact h
theorem sread_nil' (w : World) : SRead w (.slice none 0 0) [] := ⟨none, 0, rfl, Nat.le_refl _, .inl rfl⟩
theorem joined_nil18 (W : World) : Calls Try.prog 25 #[.int .u8 18, .slice none 0 0] W fun e w' => e = .returned (.agg (labA (S.sum [18]))) ∧ Below W.heap.size W w' :=
  joined_any 18 [] _ _ (sread_nil' W) (by simp [J.joinB, J.joins])
set_option maxRecDepth 100000 in
set_option maxHeartbeats 1000000 in
theorem leafItem_any (l v : List UInt8) (t : Int) (hl : l.length = 32) (hv : v.length = 32) (w : World) :
    Calls Try.prog 53 #[.agg (leafC l v t).toArray] w fun e w' => e = .returned (.agg (itemC 256 l (S.sum (D.leafT l v t)) t).toArray) ∧ Below w.heap.size w w' := by
  have CC := Lib.hid (fun W => cut256_any l hl W)
  have LL := Lib.hid (fun W => leafB_any l v t hl hv W)
  have SS := Lib.hid (fun W => sum_any (D.leafT l v t) W (leafT_len l v t hl hv))
  have ls := S.sum_length (D.leafT l v t)
  generalize S.sum (D.leafT l v t) = sm at *
  generalize (⟨(D.leafT l v t).toArray⟩ : ByteArray) = LT at *
  have hsz : (Try.prog.info? 65).map (·.size) = some (itemC 256 l sm t).toArray.size := by rw [List.size_toArray, itemC_length 256 l sm t hl ls]; exact info_item
  have hsl : (Try.prog.info? 61).map (·.size) = some (leafC l v t).length := by rw [leafC_length l v t hl hv]; exact info_leaf
  have B0 := (Blk.new w (leafC l v t).toArray 61).alloc (.cells (itemC 0 zlab zlab 0).toArray 65)
  have B1 := blk_new1 w (.cells (leafC l v t).toArray 61) (itemC 0 zlab zlab 0).toArray 65
  have hB := (below_alloc1 w (.cells (leafC l v t).toArray 61)).alloc (o := .cells (itemC 0 zlab zlab 0).toArray 65) (by simp)
  go_enter Try.func53, Try.ntmps53
  go_wp2_with (refine wpList_fresh (by rfl) 65 (by rfl) _ fresh_item ?_; simp only [Act.put, List.setIfInBounds_toArray, List.set_cons_succ, List.set_cons_zero]; try simp only [World.size_alloc])
  generalize (w.alloc (.cells (leafC l v t).toArray 61)).alloc (.cells (itemC 0 zlab zlab 0).toArray 65) = w0 at *
  have hlt : w.heap.size < w0.drew.heap.size := B0.lt
  have r0 : w0.drew.rangeAt w.heap.size 0 (leafC l v t) := blk_rangeL (o := 0) B0.drew (fun j u h => by rw [Nat.zero_add]; exact h)
  have r1 : w0.drew.rangeAt w.heap.size 0 (l.map byteV) := blk_rangeL (o := 0) B0.drew (fun j u h => by rw [Nat.zero_add]; exact leafC_lab l v t j u h)
  have r3 : w0.drew.cell? ⟨w.heap.size, 64, none⟩ = some (.int .i64 t) := (B0.drew.cell 64).trans (by rw [List.getElem?_toArray]; exact leafC_at l v t hl hv)
  have hc3 : ∀ W, Stp w0.drew W → W.cell? ⟨w.heap.size, 64, none⟩ = some (.int .i64 t) := fun W h => (Below.cell (p := ⟨w.heap.size, 64, none⟩) h hlt).trans r3
  have hbd := build_item 256 t l sm hl ls
  clear r3 B0
  apply wp_region_rel_below_tail 9 [[(1, none)], [(3, some 0)], [(4, some 1)], [(1, none)], [(6, some 3)], [(7, some 4)], [(1, none)], [(9, some 6)], [(5, some 2), (8, some 5), (10, some 7)]] [eqv _, eqv _, eqv _, eqv _, eqv _, eqv _, eqv _, eqv _, eqv _] (by kernel_rfl) (by kernel_rfl)
  case hobs =>
    refine ⟨?_, ?_⟩
    · rintro L a1 w1 hT - - ⟨h1, -⟩   -- 0: Op.fieldAddr 61 t1 0
      have e1 : a1.tmps.getD 1 undef = _ := h1
      have f1 := getD_form e1
      clear h1
      go_simp; exact left_intro rfl (Stp.refl _) trivial
    refine ⟨?_, ?_⟩
    · rintro L a1 w1 hT - - ⟨h3, -⟩   -- 1: Op.load 25 t3
      have e3 : a1.tmps.getD 3 undef = _ := h3
      have f3 := getD_form e3
      clear h3
      exact wp_load_labR (.tmp 3) rfl e3 (range_stp r1 hlt hT) hl (left_intro rfl (Stp.refl _) trivial)
    refine ⟨?_, ?_⟩
    · rintro L a1 w1 hT - - ⟨h4, -⟩   -- 2: Op.call { value (Operand.func 83), args := #[t4, const (256:i64)], argTypes := #[25, 3] }
      have e4 : a1.tmps.getD 4 undef = _ := h4
      have f4 := getD_form e4
      clear h4
      go_simp; go_at_call 83; (with_reducible refine (CC.out _).mono ?_); rintro e w2 ⟨rfl, hb⟩; exact left_intro rfl (Stp.of hb) trivial
    refine ⟨?_, ?_⟩
    · rintro L a1 w1 hT - - ⟨h1, -⟩   -- 3: Op.load 61 t1
      have e1 : a1.tmps.getD 1 undef = _ := h1
      have f1 := getD_form e1
      clear h1
      exact wp_load_mid 61 (.tmp 1) rfl w.heap.size 0 e1 (leafC l v t) _ (range_stp r0 hlt hT) Try.underlying61 (by rfl) hsl (left_intro rfl (Stp.refl _) trivial)
    refine ⟨?_, ?_⟩
    · rintro L a1 w1 hT - - ⟨h6, -⟩   -- 4: Op.call { value (Operand.func 84), args := #[t6], argTypes := #[61] }
      have e6 : a1.tmps.getD 6 undef = _ := h6
      have f6 := getD_form e6
      clear h6
      go_simp; go_at_call 84; (with_reducible refine (LL.out _).mono ?_); rintro e w2 ⟨rfl, hb⟩; exact left_intro rfl (Stp.of hb) trivial
    refine ⟨?_, ?_⟩
    · rintro L a1 w1 hT - - ⟨h7, -⟩   -- 5: Op.call { value (Operand.func 20), args := #[t7], argTypes := #[9] }
      have e7 : a1.tmps.getD 7 undef = _ := h7
      have f7 := getD_form e7
      clear h7
      go_simp; go_at_call 20; (with_reducible refine (SS.out _).mono ?_); rintro e w2 ⟨rfl, hb⟩; exact left_intro rfl (Stp.of hb) trivial
    refine ⟨?_, ?_⟩
    · rintro L a1 w1 hT - - ⟨h1, -⟩   -- 6: Op.fieldAddr 61 t1 2
      have e1 : a1.tmps.getD 1 undef = _ := h1
      have f1 := getD_form e1
      clear h1
      go_simp; exact left_intro rfl (Stp.refl _) trivial
    refine ⟨?_, ?_⟩
    · rintro L a1 w1 hT - - ⟨h9, -⟩   -- 7: Op.load 3 t9
      have e9 : a1.tmps.getD 9 undef = _ := h9
      have f9 := getD_form e9
      clear h9
      have c10 := hc3 w1 hT
      go_simp; exact left_intro rfl (Stp.refl _) trivial
    refine ⟨?_, ?_⟩
    · rintro L a1 w1 hT - - ⟨h5, h8, h10, -⟩   -- 8: Op.build 65 #[(0, t5), (1, t8), (2, t10)]
      have e5 : a1.tmps.getD 5 undef = _ := h5
      have f5 := getD_form e5
      have e8 : a1.tmps.getD 8 undef = _ := h8
      have f8 := getD_form e8
      have e10 : a1.tmps.getD 10 undef = _ := h10
      have f10 := getD_form e10
      clear h5 h8 h10
      have hv8 : [(0, a1.tmps.getD 5 undef), (1, a1.tmps.getD 8 undef), (2, a1.tmps.getD 10 undef)] = [(0, Value.agg (prefA 256 l)), (1, .agg (labA sm)), (2, .int .i64 t)] := by rw [e5, e8, e10]
      exact wp_buildS 65 [(0, .tmp 5), (1, .tmp 8), (2, .tmp 10)] rfl _ hv8 _ hbd (left_intro rfl (Stp.refl _) trivial)
    trivial
  case hmono => repeat (first | exact trivial | refine ⟨fun _ _ _ _ h => h, ?_⟩)
  case hend =>
    intro w2 hT
    rintro _ rfl _ rfl _ rfl _ rfl _ rfl _ rfl _ rfl _ rfl _ rfl
    simp only [Act.put, List.setIfInBounds_toArray, List.set_cons_succ, List.set_cons_zero, List.drop_succ_cons, List.drop_zero]
    have B2 := Blk.at_ (w := w0) B1 hT
    have hB2 := hB.trans (Below.mono hT hB.size)
    go_wp2_with ((refine wpList_store_blk (by rfl) 65 (.tmp 2) (.tmp 11) (by rfl) (0) ((itemC 256 l sm t).toArray) (by rfl) (by rfl) (B2) ((by rw [List.size_toArray, List.size_toArray, itemC_length 256 l sm t hl ls, itemC_length 0 zlab zlab 0 rfl rfl]; decide)) hsz (itemC_one 256 l sm t) ?_; simp only [Act.put]); intro w9 b9 o9)
    rw [splice_all _ _ (by rw [List.size_toArray, List.size_toArray, itemC_length 256 l sm t hl ls, itemC_length 0 zlab zlab 0 rfl rfl])] at b9
    exact bodyPost_ret (v := .agg (itemC 256 l sm t).toArray) (results_blk (by rfl) _ b9 _ (by rfl) Try.underlying65 (by rfl) hsz) rfl ⟨rfl, o9.below hB2 (by omega)⟩
set_option maxRecDepth 100000 in
set_option maxHeartbeats 1000000 in
theorem empty_any (w : World) : Calls Try.prog 79 #[] w fun e w' => e = .returned (.agg (labA (S.sum [18]))) ∧ Below w.heap.size w w' := by
  have JJ := Lib.hid (fun W => joined_nil18 W)
  have hl : (S.sum [18]).length = 32 := S.sum_length _
  generalize S.sum [18] = m at *
  have hzm := size_lab m hl
  go_enter Try.func79, Try.ntmps79
  go_wp2_with (first | (refine wpList_fresh (by rfl) 25 (by rfl) _ fresh_lab ?_; simp only [Act.put, List.setIfInBounds_toArray, List.set_cons_zero]; try simp only [World.size_alloc]) | (go_at_call 25; (with_reducible refine (JJ.out _).mono ?_); rintro e w3 ⟨rfl, hb3⟩) | ((refine wpList_store_blk (by rfl) 25 (.tmp 0) (.tmp 1) (by rfl) (0) (labA m) (by rfl) (by rfl) (((Blk.new w (labA zlab) 25).at_ hb3)) ((by rw [labA_size, labA_size, hl]; decide)) hzm (labA_all _) ?_; simp only [Act.put]); intro w9 b9 o9))
  rw [splice_all _ _ (by rw [labA_size, labA_size, hl]; decide)] at b9
  exact bodyPost_ret (v := .agg (labA m)) (results_blk (by rfl) _ b9 _ (by rfl) Try.underlying25 (by rfl) hzm) rfl ⟨rfl, o9.below ((below_alloc1 w _).trans (hb3.mono (by simp))) (Nat.le_refl _)⟩
set_option maxRecDepth 100000 in
set_option maxHeartbeats 1000000 in
theorem innerItem_any (n : Int) (p s : List UInt8) (t : Int) (n' : Int) (p' s' : List UInt8) (t' : Int) (hp : p.length = 32) (hs : s.length = 32) (hp' : p'.length = 32) (hs' : s'.length = 32) (w : World) :
    Calls Try.prog 78 #[.agg (innerC n p s t n' p' s' t').toArray] w fun e w' => e = .returned (.agg (itemC (B.cmn p p' : Nat) (B.cut p (B.cmn p p')) (S.sum (D.innerT (D.itemT n p s t) (D.itemT n' p' s' t'))) (max t t')).toArray) ∧ Below w.heap.size w w' := by
  have C1 := Lib.hid (fun W => cmn_any p p' hp hp' W)
  have hc := B.cmn_le p p'
  have C2 := Lib.hid (fun W => cutN_any p hp (B.cmn p p') hc W)
  have II := Lib.hid (fun W => innerB_any n p s t n' p' s' t' hp hs hp' hs' W)
  have hil := innerT_len (D.itemT n p s t) (D.itemT n' p' s' t') (itemT_len n p s t hp hs) (itemT_len n' p' s' t' hp' hs')
  have SS := Lib.hid (fun W => sum_any (D.innerT (D.itemT n p s t) (D.itemT n' p' s' t')) W hil)
  have ls := S.sum_length (D.innerT (D.itemT n p s t) (D.itemT n' p' s' t'))
  have lc := B.cut_length p (B.cmn p p')
  generalize S.sum (D.innerT (D.itemT n p s t) (D.itemT n' p' s' t')) = sm at *
  generalize (⟨(D.innerT (D.itemT n p s t) (D.itemT n' p' s' t')).toArray⟩ : ByteArray) = LT at *
  generalize B.cut p (B.cmn p p') = q at *
  generalize B.cmn p p' = c at *
  have hla := itemC_length n p s t hp hs
  have hsI : (Try.prog.info? 69).map (·.size) = some (innerC n p s t n' p' s' t').length := by rw [show (innerC n p s t n' p' s' t').length = 132 by unfold innerC; rw [List.length_append, hla, itemC_length n' p' s' t' hp' hs']]; exact info_inner
  have B0 := (Blk.new w (innerC n p s t n' p' s' t').toArray 69).alloc (.cells (itemC 0 zlab zlab 0).toArray 65)
  have B1 := blk_new1 w (.cells (innerC n p s t n' p' s' t').toArray 69) (itemC 0 zlab zlab 0).toArray 65
  have hB := (below_alloc1 w (.cells (innerC n p s t n' p' s' t').toArray 69)).alloc (o := .cells (itemC 0 zlab zlab 0).toArray 65) (by simp)
  go_enter Try.func78, Try.ntmps78
  go_wp2_with (refine wpList_fresh (by rfl) 65 (by rfl) _ fresh_item ?_; simp only [Act.put, List.setIfInBounds_toArray, List.set_cons_succ, List.set_cons_zero]; try simp only [World.size_alloc])
  generalize (w.alloc (.cells (innerC n p s t n' p' s' t').toArray 69)).alloc (.cells (itemC 0 zlab zlab 0).toArray 65) = w0 at *
  have hlt : w.heap.size < w0.drew.heap.size := B0.lt
  have r1 : w0.drew.rangeAt w.heap.size 1 (p.map byteV) := blk_rangeL (o := 1) B0.drew (fun j u h => by unfold innerC; rw [List.getElem?_append_left (by have := (List.getElem?_eq_some_iff.1 h).1; rw [List.length_map] at this; omega)]; exact itemC_pre n p s t j u h)
  have r2 : w0.drew.rangeAt w.heap.size 67 (p'.map byteV) := blk_rangeL (o := 67) B0.drew (fun j u h => by unfold innerC; rw [List.getElem?_append_right (by omega), hla, show 67 + j - 66 = 1 + j by omega]; exact itemC_pre n' p' s' t' j u h)
  apply wp_region_rel_below_tail 15 [[(1, none)], [(4, some 0)], [(5, some 1)], [(6, some 2)], [(1, none)], [(8, some 4)], [(9, some 5)], [(10, some 6)], [(1, none)], [(12, some 8)], [(13, some 9)], [(14, some 10)], [(11, some 7), (15, some 11)], [(7, some 3), (16, some 12)], []] [eqv _, eqv _, eqv _, eqv _, eqv _, eqv _, eqv _, eqv _, eqv _, eqv _, eqv _, eqv _, eqv _, eqv _, ptrBlk w0.heap.size (prefA 0 zlab) 63] (by kernel_rfl) (by kernel_rfl)
  case hobs =>
    refine ⟨?_, ?_⟩
    · rintro L a1 w1 hT - - ⟨h1, -⟩   -- 0: Op.fieldAddr 69 t1 0
      have e1 : a1.tmps.getD 1 undef = _ := h1
      have f1 := getD_form e1
      clear h1
      go_simp; exact left_intro rfl (Stp.refl _) trivial
    refine ⟨?_, ?_⟩
    · rintro L a1 w1 hT - - ⟨h4, -⟩   -- 1: Op.fieldAddr 65 t4 0
      have e4 : a1.tmps.getD 4 undef = _ := h4
      have f4 := getD_form e4
      clear h4
      go_simp; exact left_intro rfl (Stp.refl _) trivial
    refine ⟨?_, ?_⟩
    · rintro L a1 w1 hT - - ⟨h5, -⟩   -- 2: Op.fieldAddr 63 t5 1
      have e5 : a1.tmps.getD 5 undef = _ := h5
      have f5 := getD_form e5
      clear h5
      go_simp; exact left_intro rfl (Stp.refl _) trivial
    refine ⟨?_, ?_⟩
    · rintro L a1 w1 hT - - ⟨h6, -⟩   -- 3: Op.load 25 t6
      have e6 : a1.tmps.getD 6 undef = _ := h6
      have f6 := getD_form e6
      clear h6
      exact wp_load_labR (.tmp 6) rfl e6 (range_stp r1 hlt hT) hp (left_intro rfl (Stp.refl _) trivial)
    refine ⟨?_, ?_⟩
    · rintro L a1 w1 hT - - ⟨h1, -⟩   -- 4: Op.fieldAddr 69 t1 0
      have e1 : a1.tmps.getD 1 undef = _ := h1
      have f1 := getD_form e1
      clear h1
      go_simp; exact left_intro rfl (Stp.refl _) trivial
    refine ⟨?_, ?_⟩
    · rintro L a1 w1 hT - - ⟨h8, -⟩   -- 5: Op.fieldAddr 65 t8 0
      have e8 : a1.tmps.getD 8 undef = _ := h8
      have f8 := getD_form e8
      clear h8
      go_simp; exact left_intro rfl (Stp.refl _) trivial
    refine ⟨?_, ?_⟩
    · rintro L a1 w1 hT - - ⟨h9, -⟩   -- 6: Op.fieldAddr 63 t9 1
      have e9 : a1.tmps.getD 9 undef = _ := h9
      have f9 := getD_form e9
      clear h9
      go_simp; exact left_intro rfl (Stp.refl _) trivial
    refine ⟨?_, ?_⟩
    · rintro L a1 w1 hT - - ⟨h10, -⟩   -- 7: Op.load 25 t10
      have e10 : a1.tmps.getD 10 undef = _ := h10
      have f10 := getD_form e10
      clear h10
      exact wp_load_labR (.tmp 10) rfl e10 (range_stp r1 hlt hT) hp (left_intro rfl (Stp.refl _) trivial)
    refine ⟨?_, ?_⟩
    · rintro L a1 w1 hT - - ⟨h1, -⟩   -- 8: Op.fieldAddr 69 t1 1
      have e1 : a1.tmps.getD 1 undef = _ := h1
      have f1 := getD_form e1
      clear h1
      go_simp; exact left_intro rfl (Stp.refl _) trivial
    refine ⟨?_, ?_⟩
    · rintro L a1 w1 hT - - ⟨h12, -⟩   -- 9: Op.fieldAddr 65 t12 0
      have e12 : a1.tmps.getD 12 undef = _ := h12
      have f12 := getD_form e12
      clear h12
      go_simp; exact left_intro rfl (Stp.refl _) trivial
    refine ⟨?_, ?_⟩
    · rintro L a1 w1 hT - - ⟨h13, -⟩   -- 10: Op.fieldAddr 63 t13 1
      have e13 : a1.tmps.getD 13 undef = _ := h13
      have f13 := getD_form e13
      clear h13
      go_simp; exact left_intro rfl (Stp.refl _) trivial
    refine ⟨?_, ?_⟩
    · rintro L a1 w1 hT - - ⟨h14, -⟩   -- 11: Op.load 25 t14
      have e14 : a1.tmps.getD 14 undef = _ := h14
      have f14 := getD_form e14
      clear h14
      exact wp_load_labR (.tmp 14) rfl e14 (range_stp r2 hlt hT) hp' (left_intro rfl (Stp.refl _) trivial)
    refine ⟨?_, ?_⟩
    · rintro L a1 w1 hT - - ⟨h11, h15, -⟩   -- 12: Op.call { value (Operand.func 107), args := #[t11, t15], argTypes := #[25, 25] }
      have e11 : a1.tmps.getD 11 undef = _ := h11
      have f11 := getD_form e11
      have e15 : a1.tmps.getD 15 undef = _ := h15
      have f15 := getD_form e15
      clear h11 h15
      go_simp; go_at_call 107; (with_reducible refine (C1.out _).mono ?_); rintro e w2 ⟨rfl, hb⟩; exact left_intro rfl (Stp.of hb) trivial
    refine ⟨?_, ?_⟩
    · rintro L a1 w1 hT - - ⟨h7, h16, -⟩   -- 13: Op.call { value (Operand.func 83), args := #[t7, t16], argTypes := #[25, 3] }
      have e7 : a1.tmps.getD 7 undef = _ := h7
      have f7 := getD_form e7
      have e16 : a1.tmps.getD 16 undef = _ := h16
      have f16 := getD_form e16
      clear h7 h16
      go_simp; go_at_call 83; (with_reducible refine (C2.out _).mono ?_); rintro e w2 ⟨rfl, hb⟩; exact left_intro rfl (Stp.of hb) trivial
    refine ⟨?_, ?_⟩
    · rintro L a1 w1 hT - - -   -- 14: Op.alloc 63
      have h9 : Below w0.drew.heap.size w0.drew w1 := hT
      have hz14 : w0.heap.size ≤ w1.heap.size := h9.size
      exact wp_freshS 63 rfl (prefA 0 zlab) fresh_pref (left_intro (T := Stp) (Ph := fun _ _ _ => True) ⟨_, rfl, hz14, Blk.new _ _ _⟩ (Stp.alloc _ _) trivial)
    trivial
  case hmono => repeat (first | exact trivial | refine ⟨fun _ _ _ _ h => h, ?_⟩ | refine ⟨mono_blkRow _ _ _ _, ?_⟩ | refine ⟨mono_ptrBlk _ _ _, ?_⟩)
  case hend =>
    intro w2 hT
    rintro _ rfl _ rfl _ rfl _ rfl _ rfl _ rfl _ rfl _ rfl _ rfl _ rfl _ rfl _ rfl _ rfl _ rfl v3 ⟨g3, rfl, hg3, B3⟩
    simp only [Act.put, List.setIfInBounds_toArray, List.set_cons_succ, List.set_cons_zero, List.drop_succ_cons, List.drop_zero]
    have B2 := Blk.at_ (w := w0) B1 hT
    have B4 := Blk.at_ (w := w0) B0 hT
    have hB2 := hB.trans (Below.mono hT hB.size)
    go_wp2_with ((refine wpList_store_blk (by rfl) 63 (.tmp 3) (.tmp 17) (by rfl) (0) (prefA (c : Int) q) (by rfl) (by rfl) (B3) ((by rw [prefA_size, prefA_size, lc]; decide)) (by rw [prefA_size, lc]; kernel_rfl) (prefA_all _ _) ?_; simp only [Act.put]); intro w5 b5 o5)
    rw [splice_all _ _ (by rw [prefA_size, prefA_size, lc]; rfl)] at b5
    have hl1 := B1.lt
    have B5 := B2.only o5 (by omega)
    have B6 := B4.only o5 (by omega)
    have hB5 := o5.below hB2 (by have := hB.size; omega)
    clear B0 B1 B2 B3 B4 r1 r2 hlt hB hB2 o5 hT
    have hlt : w.heap.size < w5.drew.heap.size := B6.lt
    have hl5 : g3 < w5.drew.heap.size := b5.lt
    have r0 : w5.drew.rangeAt w.heap.size 0 (innerC n p s t n' p' s' t') := blk_rangeL (o := 0) B6.drew (fun j u h => by rw [Nat.zero_add]; exact h)
    have r4 : w5.drew.cell? ⟨w.heap.size, 65, none⟩ = some (.int .i64 t) := (B6.drew.cell 65).trans (by rw [List.getElem?_toArray]; unfold innerC; rw [List.getElem?_append_left (by omega)]; exact itemC_at n p s t hp hs)
    have r5 : w5.drew.cell? ⟨w.heap.size, 131, none⟩ = some (.int .i64 t') := (B6.drew.cell 131).trans (by rw [List.getElem?_toArray]; unfold innerC; rw [List.getElem?_append_right (by omega), hla]; exact itemC_at n' p' s' t' hp' hs')
    have hc4 : ∀ W, Stp w5.drew W → W.cell? ⟨w.heap.size, 65, none⟩ = some (.int .i64 t) := fun W h => (Below.cell (p := ⟨w.heap.size, 65, none⟩) h hlt).trans r4
    have hc5 : ∀ W, Stp w5.drew W → W.cell? ⟨w.heap.size, 131, none⟩ = some (.int .i64 t') := fun W h => (Below.cell (p := ⟨w.heap.size, 131, none⟩) h hlt).trans r5
    have r6 : w5.drew.rangeAt g3 0 (prefA (c : Int) q).toList := blk_range (o := 0) b5.drew (fun j _ => by rw [Nat.zero_add])
    have hbd := build_item (c : Int) (max t t') q sm lc ls
    have hsz : (Try.prog.info? 65).map (·.size) = some (itemC (c : Int) q sm (max t t')).toArray.size := by rw [List.size_toArray, itemC_length (c : Int) q sm (max t t') lc ls]; exact info_item
    clear r4 r5
    apply wp_region_rel_below_tail 12 [[(3, none)], [(1, none)], [(19, some 1)], [(20, some 2)], [(1, none)], [(22, some 4)], [(23, some 5)], [(1, none)], [(25, some 7)], [(26, some 8)], [(24, some 6), (27, some 9)], [(18, some 0), (21, some 3), (28, some 10)]] [eqv _, eqv _, eqv _, eqv _, eqv _, eqv _, eqv _, eqv _, eqv _, eqv _, eqv _, eqv _] (by kernel_rfl) (by kernel_rfl)
    case hobs =>
      refine ⟨?_, ?_⟩
      · rintro L a1 w1 hT - - ⟨h3, -⟩   -- 0: Op.load 63 t3
        have e3 : a1.tmps.getD 3 undef = _ := h3
        have f3 := getD_form e3
        clear h3
        exact wp_load_mid 63 (.tmp 3) rfl g3 0 e3 (prefA (c : Int) q).toList _ (range_stp r6 hl5 hT) Try.underlying63 (by rfl) (by rw [Array.length_toList, prefA_size, lc]; kernel_rfl) (left_intro rfl (Stp.refl _) trivial)
      refine ⟨?_, ?_⟩
      · rintro L a1 w1 hT - - ⟨h1, -⟩   -- 1: Op.load 69 t1
        have e1 : a1.tmps.getD 1 undef = _ := h1
        have f1 := getD_form e1
        clear h1
        exact wp_load_mid 69 (.tmp 1) rfl w.heap.size 0 e1 (innerC n p s t n' p' s' t') _ (range_stp r0 hlt hT) Try.underlying69 (by rfl) hsI (left_intro rfl (Stp.refl _) trivial)
      refine ⟨?_, ?_⟩
      · rintro L a1 w1 hT - - ⟨h19, -⟩   -- 2: Op.call { value (Operand.func 112), args := #[t19], argTypes := #[69] }
        have e19 : a1.tmps.getD 19 undef = _ := h19
        have f19 := getD_form e19
        clear h19
        go_simp; go_at_call 112; (with_reducible refine (II.out _).mono ?_); rintro e w2 ⟨rfl, hb⟩; exact left_intro rfl (Stp.of hb) trivial
      refine ⟨?_, ?_⟩
      · rintro L a1 w1 hT - - ⟨h20, -⟩   -- 3: Op.call { value (Operand.func 20), args := #[t20], argTypes := #[9] }
        have e20 : a1.tmps.getD 20 undef = _ := h20
        have f20 := getD_form e20
        clear h20
        go_simp; go_at_call 20; (with_reducible refine (SS.out _).mono ?_); rintro e w2 ⟨rfl, hb⟩; exact left_intro rfl (Stp.of hb) trivial
      refine ⟨?_, ?_⟩
      · rintro L a1 w1 hT - - ⟨h1, -⟩   -- 4: Op.fieldAddr 69 t1 0
        have e1 : a1.tmps.getD 1 undef = _ := h1
        have f1 := getD_form e1
        clear h1
        go_simp; exact left_intro rfl (Stp.refl _) trivial
      refine ⟨?_, ?_⟩
      · rintro L a1 w1 hT - - ⟨h22, -⟩   -- 5: Op.fieldAddr 65 t22 2
        have e22 : a1.tmps.getD 22 undef = _ := h22
        have f22 := getD_form e22
        clear h22
        go_simp; exact left_intro rfl (Stp.refl _) trivial
      refine ⟨?_, ?_⟩
      · rintro L a1 w1 hT - - ⟨h23, -⟩   -- 6: Op.load 3 t23
        have e23 : a1.tmps.getD 23 undef = _ := h23
        have f23 := getD_form e23
        clear h23
        have c24 := hc4 w1 hT
        go_simp; exact left_intro rfl (Stp.refl _) trivial
      refine ⟨?_, ?_⟩
      · rintro L a1 w1 hT - - ⟨h1, -⟩   -- 7: Op.fieldAddr 69 t1 1
        have e1 : a1.tmps.getD 1 undef = _ := h1
        have f1 := getD_form e1
        clear h1
        go_simp; exact left_intro rfl (Stp.refl _) trivial
      refine ⟨?_, ?_⟩
      · rintro L a1 w1 hT - - ⟨h25, -⟩   -- 8: Op.fieldAddr 65 t25 2
        have e25 : a1.tmps.getD 25 undef = _ := h25
        have f25 := getD_form e25
        clear h25
        go_simp; exact left_intro rfl (Stp.refl _) trivial
      refine ⟨?_, ?_⟩
      · rintro L a1 w1 hT - - ⟨h26, -⟩   -- 9: Op.load 3 t26
        have e26 : a1.tmps.getD 26 undef = _ := h26
        have f26 := getD_form e26
        clear h26
        have c27 := hc5 w1 hT
        go_simp; exact left_intro rfl (Stp.refl _) trivial
      refine ⟨?_, ?_⟩
      · rintro L a1 w1 hT - - ⟨h24, h27, -⟩   -- 10: Op.call { builtin max, args := #[t24, t27], argTypes := #[3, 3] }
        have e24 : a1.tmps.getD 24 undef = _ := h24
        have f24 := getD_form e24
        have e27 : a1.tmps.getD 27 undef = _ := h27
        have f27 := getD_form e27
        clear h24 h27
        go_simp; exact left_intro rfl (Stp.refl _) trivial
      refine ⟨?_, ?_⟩
      · rintro L a1 w1 hT - - ⟨h18, h21, h28, -⟩   -- 11: Op.build 65 #[(0, t18), (1, t21), (2, t28)]
        have e18 : a1.tmps.getD 18 undef = _ := h18
        have f18 := getD_form e18
        have e21 : a1.tmps.getD 21 undef = _ := h21
        have f21 := getD_form e21
        have e28 : a1.tmps.getD 28 undef = _ := h28
        have f28 := getD_form e28
        clear h18 h21 h28
        have hv8 : [(0, a1.tmps.getD 18 undef), (1, a1.tmps.getD 21 undef), (2, a1.tmps.getD 28 undef)] = [(0, Value.agg (prefA (c : Int) q)), (1, .agg (labA sm)), (2, .int .i64 (max t t'))] := by rw [e18, e21, e28]
        exact wp_buildS 65 [(0, .tmp 18), (1, .tmp 21), (2, .tmp 28)] rfl _ hv8 _ hbd (left_intro rfl (Stp.refl _) trivial)
      trivial
    case hmono => repeat (first | exact trivial | refine ⟨fun _ _ _ _ h => h, ?_⟩)
    case hend =>
      intro w2 hT
      rintro _ rfl _ rfl _ rfl _ rfl _ rfl _ rfl _ rfl _ rfl _ rfl _ rfl _ rfl _ rfl
      simp only [Act.put, List.setIfInBounds_toArray, List.set_cons_succ, List.set_cons_zero, List.drop_succ_cons, List.drop_zero]
      have B7 := Blk.at_ (w := w5) B5 hT
      have hB7 := hB5.trans (Below.mono hT hB5.size)
      go_wp2_with ((refine wpList_store_blk (by rfl) 65 (.tmp 2) (.tmp 29) (by rfl) (0) ((itemC (c : Int) q sm (max t t')).toArray) (by rfl) (by rfl) (B7) ((by rw [List.size_toArray, List.size_toArray, itemC_length (c : Int) q sm (max t t') lc ls, itemC_length 0 zlab zlab 0 rfl rfl]; decide)) hsz (itemC_one (c : Int) q sm (max t t')) ?_; simp only [Act.put]); intro w9 b9 o9)
      rw [splice_all _ _ (by rw [List.size_toArray, List.size_toArray, itemC_length (c : Int) q sm (max t t') lc ls, itemC_length 0 zlab zlab 0 rfl rfl])] at b9
      exact bodyPost_ret (v := .agg (itemC (c : Int) q sm (max t t')).toArray) (results_blk (by rfl) _ b9 _ (by rfl) Try.underlying65 (by rfl) hsz) rfl ⟨rfl, o9.below hB7 (by omega)⟩
end Go.Proofs.Ytgjmnhbkdccgpaa

/- The walks of InnerBytes of both, of Told, and of nodes' items. -/
import Derived.Test.YtgjmnhbkdccgpaaWLeafB
import Derived.Test.YtgjmnhbkdccgpaaWGood
namespace Go.Proofs.Ytgjmnhbkdccgpaa
open Go.RowKit

theorem info_item : (Try.prog.info? 65).map (·.size) = some 66 := by kernel_rfl
theorem info_ritem : (Try.prog.info? 72).map (·.size) = some 66 := by kernel_rfl
theorem info_leaf : (Try.prog.info? 61).map (·.size) = some 65 := by kernel_rfl
theorem info_inner : (Try.prog.info? 69).map (·.size) = some 132 := by kernel_rfl
def innerC (n : Int) (p s : List UInt8) (t : Int) (n' : Int) (p' s' : List UInt8) (t' : Int) : List Value := itemC n p s t ++ itemC n' p' s' t'
theorem byte_one' (x : List UInt8) : ∀ u ∈ x.map byteV, u.oneCell' = true := by
  intro u hu
  obtain ⟨b, _, rfl⟩ := List.mem_map.1 hu
  rfl
theorem itemC_one (n : Int) (p s : List UInt8) (t : Int) : (itemC n p s t).toArray.all (·.oneCell') = true := by
  rw [Array.all_eq_true']
  intro u hu
  have hu : u ∈ itemC n p s t := by simpa using hu
  unfold itemC at hu
  rcases List.mem_cons.1 hu with rfl | hu
  · rfl
  · rcases List.mem_append.1 hu with hu | hu
    · rcases List.mem_append.1 hu with hu | hu
      · exact byte_one' p u hu
      · exact byte_one' s u hu
    · obtain rfl := List.mem_singleton.1 hu
      rfl
theorem lab32 (p : List UInt8) (h : p.length = 32) : ∃ a0 a1 a2 a3 a4 a5 a6 a7 a8 a9 a10 a11 a12 a13 a14 a15 a16 a17 a18 a19 a20 a21 a22 a23 a24 a25 a26 a27 a28 a29 a30 a31 : UInt8, p = [a0, a1, a2, a3, a4, a5, a6, a7, a8, a9, a10, a11, a12, a13, a14, a15, a16, a17, a18, a19, a20, a21, a22, a23, a24, a25, a26, a27, a28, a29, a30, a31] := by
  match p, h with
  | [a0, a1, a2, a3, a4, a5, a6, a7, a8, a9, a10, a11, a12, a13, a14, a15, a16, a17, a18, a19, a20, a21, a22, a23, a24, a25, a26, a27, a28, a29, a30, a31], _ => exact ⟨a0, a1, a2, a3, a4, a5, a6, a7, a8, a9, a10, a11, a12, a13, a14, a15, a16, a17, a18, a19, a20, a21, a22, a23, a24, a25, a26, a27, a28, a29, a30, a31, rfl⟩
theorem build_told (n t : Int) (p s : List UInt8) (hp : p.length = 32) (hs : s.length = 32) (w : World) : (Instr.build 72 #[(0, .int .i64 n), (1, .agg (labA p)), (2, .agg (labA s)), (3, .int .i64 t)]).run Try.prog w = .ok (.agg (itemC n p s t).toArray) w := by
  obtain ⟨a0, a1, a2, a3, a4, a5, a6, a7, a8, a9, a10, a11, a12, a13, a14, a15, a16, a17, a18, a19, a20, a21, a22, a23, a24, a25, a26, a27, a28, a29, a30, a31, rfl⟩ := lab32 p hp
  obtain ⟨b0, b1, b2, b3, b4, b5, b6, b7, b8, b9, b10, b11, b12, b13, b14, b15, b16, b17, b18, b19, b20, b21, b22, b23, b24, b25, b26, b27, b28, b29, b30, b31, rfl⟩ := lab32 s hs
  kernel_rfl
theorem build_item (n t : Int) (p s : List UInt8) (hp : p.length = 32) (hs : s.length = 32) (w : World) : (Instr.build 65 #[(0, .agg (prefA n p)), (1, .agg (labA s)), (2, .int .i64 t)]).run Try.prog w = .ok (.agg (itemC n p s t).toArray) w := by
  obtain ⟨a0, a1, a2, a3, a4, a5, a6, a7, a8, a9, a10, a11, a12, a13, a14, a15, a16, a17, a18, a19, a20, a21, a22, a23, a24, a25, a26, a27, a28, a29, a30, a31, rfl⟩ := lab32 p hp
  obtain ⟨b0, b1, b2, b3, b4, b5, b6, b7, b8, b9, b10, b11, b12, b13, b14, b15, b16, b17, b18, b19, b20, b21, b22, b23, b24, b25, b26, b27, b28, b29, b30, b31, rfl⟩ := lab32 s hs
  kernel_rfl
set_option maxRecDepth 100000 in
set_option maxHeartbeats 1000000 in
theorem rinnerB_any (n : Int) (p s : List UInt8) (t : Int) (n' : Int) (p' s' : List UInt8) (t' : Int) (hp : p.length = 32) (hs : s.length = 32) (hp' : p'.length = 32) (hs' : s'.length = 32) (w : World) :
    Calls Try.prog 52 #[.agg (itemC n p s t).toArray, .agg (itemC n' p' s' t').toArray] w fun e w' => e = .returned (.string ⟨(D.innerT (D.itemT n p s t) (D.itemT n' p' s' t')).toArray⟩) ∧ Below w.heap.size w w' := by
  have TA := Lib.hid (fun W => rtextI_any n p s t hp hs W)
  have TB := Lib.hid (fun W => rtextI_any n' p' s' t' hp' hs' W)
  have la := itemT_len n p s t hp hs
  have lb := itemT_len n' p' s' t' hp' hs'
  have hsa : ((Try.prog.info? 72).map (·.size) = some (itemC n p s t).length) := by rw [itemC_length n p s t hp hs]; exact info_ritem
  have hsb : ((Try.prog.info? 72).map (·.size) = some (itemC n' p' s' t').length) := by rw [itemC_length n' p' s' t' hp' hs']; exact info_ritem
  generalize D.itemT n p s t = x at *
  generalize D.itemT n' p' s' t' = y at *
  generalize itemC n p s t = c at *
  generalize itemC n' p' s' t' = c' at *
  have RB := Lib.hid (fun v1 W (h : SRead W v1 ([x, y].map strV)) => rbytes_lit 17 17 rfl [x, y] v1 W h (innerT_len x y la lb))
  rw [show J.joinB 17 [x, y] = D.innerT x y from rfl] at RB
  have B0 := (Blk.new w c.toArray 72).alloc (.cells c'.toArray 72)
  have B1 := blk_new1 w (.cells c.toArray 72) c'.toArray 72
  have hB := (below_alloc1 w (.cells c.toArray 72)).alloc (o := .cells c'.toArray 72) (by simp)
  go_enter Try.func52, Try.ntmps52
  go_wp2
  generalize (w.alloc (.cells c.toArray 72)).alloc (.cells c'.toArray 72) = w0 at *
  have h0 : w.heap.size < w0.drew.heap.size := B0.lt
  have h1 : w.heap.size + 1 < w0.drew.heap.size := B1.lt
  have r0 : w0.drew.rangeAt w.heap.size 0 c := blk_rangeL (o := 0) B0.drew (fun j u h => by rw [Nat.zero_add]; exact h)
  have r1 : w0.drew.rangeAt (w.heap.size + 1) 0 c' := blk_rangeL (o := 0) B1.drew (fun j u h => by rw [Nat.zero_add]; exact h)
  clear B0 B1
  apply wp_region_rel_below [[(2, none)], [(5, some 0)], [(3, none)], [(7, some 2)], [(6, some 1), (8, some 3)], [(9, some 4)], [(10, some 5)]] [eqv _, eqv _, eqv _, eqv _, blkRow 2 2 #[.string ⟨x.toArray⟩, .string ⟨y.toArray⟩] 9, eqv _, eqv _] (by kernel_rfl) (by kernel_rfl)
  case hobs =>
    refine ⟨?_, ?_⟩
    · rintro L a1 w1 hT - - ⟨h2, -⟩   -- 0: Op.load 72 t2
      have e2 : a1.tmps.getD 2 undef = _ := h2
      have f2 := getD_form e2
      clear h2
      exact wp_load_mid 72 (.tmp 2) rfl w.heap.size 0 e2 c _ (range_stp r0 h0 hT) Try.underlying72 (by rfl) hsa (left_intro rfl (Stp.refl _) trivial)
    refine ⟨?_, ?_⟩
    · rintro L a1 w1 hT - - ⟨h5, -⟩   -- 1: Op.call { value (Operand.func 82), args := #[t5], argTypes := #[72] }
      have e5 : a1.tmps.getD 5 undef = _ := h5
      have f5 := getD_form e5
      clear h5
      go_simp; go_at_call 82; (with_reducible refine (TA.out _).mono ?_); rintro e w2 ⟨rfl, hb⟩; exact left_intro rfl (Stp.of hb) trivial
    refine ⟨?_, ?_⟩
    · rintro L a1 w1 hT - - ⟨h3, -⟩   -- 2: Op.load 72 t3
      have e3 : a1.tmps.getD 3 undef = _ := h3
      have f3 := getD_form e3
      clear h3
      exact wp_load_mid 72 (.tmp 3) rfl (w.heap.size + 1) 0 e3 c' _ (range_stp r1 h1 hT) Try.underlying72 (by rfl) hsb (left_intro rfl (Stp.refl _) trivial)
    refine ⟨?_, ?_⟩
    · rintro L a1 w1 hT - - ⟨h7, -⟩   -- 3: Op.call { value (Operand.func 82), args := #[t7], argTypes := #[72] }
      have e7 : a1.tmps.getD 7 undef = _ := h7
      have f7 := getD_form e7
      clear h7
      go_simp; go_at_call 82; (with_reducible refine (TB.out _).mono ?_); rintro e w2 ⟨rfl, hb⟩; exact left_intro rfl (Stp.of hb) trivial
    refine ⟨?_, ?_⟩
    · rintro L a1 w1 hT - - ⟨h6, h8, -⟩   -- 4: Op.buildSlice 38 2 #[(0, t6), (1, t8)]
      have e6 : a1.tmps.getD 6 undef = _ := h6
      have f6 := getD_form e6
      have e8 : a1.tmps.getD 8 undef = _ := h8
      have f8 := getD_form e8
      clear h6 h8
      go_simp; exact left_intro (T := Stp) (Ph := fun _ _ _ => True) (blkRow_new _ _ _ _ _) (Stp.alloc _ _) trivial
    refine ⟨?_, ?_⟩
    · rintro L a1 w1 hT - - ⟨h9, -⟩   -- 5: Op.call { value (Operand.func 26), args := #[const (17:u8), t9], argTypes := #[5, 38] }
      obtain ⟨b9, e9, B9⟩ : (blkRow 2 2 #[.string ⟨x.toArray⟩, .string ⟨y.toArray⟩] 9) (a1.tmps.getD 9 undef) w1 := h9
      have f9 := getD_form e9
      have s9 : SRead w1 (.slice (some ⟨b9, 0, none⟩) 2 2) ([x, y].map strV) := sread_blk B9
      go_simp; go_at_call 26; (with_reducible refine (RB.out _ _ s9).mono ?_); rintro e w2 ⟨rfl, hb⟩; exact left_intro rfl (Stp.of hb) trivial
    refine ⟨?_, ?_⟩
    · rintro L a1 w1 hT - - ⟨h10, -⟩   -- 6: Op.assign t10
      have e10 : a1.tmps.getD 10 undef = _ := h10
      have f10 := getD_form e10
      clear h10
      go_simp; exact left_intro rfl (Stp.refl _) trivial
    trivial
  case hmono => repeat (first | exact trivial | refine ⟨fun _ _ _ _ h => h, ?_⟩ | refine ⟨mono_blkRow _ _ _ _, ?_⟩)
  case hend =>
    intro w2 hT
    rintro _ rfl _ rfl _ rfl _ rfl v9 - _ rfl _ rfl
    simp only [relEnd, Act.put, List.setIfInBounds_toArray, List.set_cons_succ, List.set_cons_zero]
    go_wp2
    go_ret
    exact ⟨rfl, hB.trans (Below.mono hT (by have := h0; exact hB.size))⟩
set_option maxRecDepth 100000 in
set_option maxHeartbeats 1000000 in
theorem innerB_any (n : Int) (p s : List UInt8) (t : Int) (n' : Int) (p' s' : List UInt8) (t' : Int) (hp : p.length = 32) (hs : s.length = 32) (hp' : p'.length = 32) (hs' : s'.length = 32) (w : World) :
    Calls Try.prog 112 #[.agg (innerC n p s t n' p' s' t').toArray] w fun e w' => e = .returned (.string ⟨(D.innerT (D.itemT n p s t) (D.itemT n' p' s' t')).toArray⟩) ∧ Below w.heap.size w w' := by
  have TA := Lib.hid (fun W => textI_any n p s t hp hs W)
  have TB := Lib.hid (fun W => textI_any n' p' s' t' hp' hs' W)
  have la := itemT_len n p s t hp hs
  have lb := itemT_len n' p' s' t' hp' hs'
  have hla := itemC_length n p s t hp hs
  have hsa : ((Try.prog.info? 65).map (·.size) = some (itemC n p s t).length) := by rw [hla]; exact info_item
  have hsb : ((Try.prog.info? 65).map (·.size) = some (itemC n' p' s' t').length) := by rw [itemC_length n' p' s' t' hp' hs']; exact info_item
  have hI : innerC n p s t n' p' s' t' = itemC n p s t ++ itemC n' p' s' t' := rfl
  generalize D.itemT n p s t = x at *
  generalize D.itemT n' p' s' t' = y at *
  generalize itemC n p s t = c at *
  generalize itemC n' p' s' t' = c' at *
  have RB := Lib.hid (fun v1 W (h : SRead W v1 ([x, y].map strV)) => njoined_lit 17 17 rfl [x, y] v1 W h (innerT_len x y la lb))
  rw [show J.joinB 17 [x, y] = D.innerT x y from rfl] at RB
  generalize innerC n p s t n' p' s' t' = C at *
  have HI := Lib.hid hI
  clear hI
  have B0 := Blk.new w C.toArray 69
  have hB := below_alloc1 w (.cells C.toArray 69)
  go_enter Try.func112, Try.ntmps112
  go_wp2
  generalize w.alloc (.cells C.toArray 69) = w0 at *
  have h0 : w.heap.size < w0.drew.heap.size := B0.lt
  have r0 : w0.drew.rangeAt w.heap.size 0 c := blk_rangeL (o := 0) B0.drew (fun j u h => by rw [Nat.zero_add, HI.out, List.getElem?_append_left (List.getElem?_eq_some_iff.1 h).1]; exact h)
  have r1 : w0.drew.rangeAt w.heap.size 66 c' := blk_rangeL (o := 66) B0.drew (fun j u h => by rw [HI.out, List.getElem?_append_right (by omega), hla, Nat.add_sub_cancel_left]; exact h)
  clear B0 HI
  apply wp_region_rel_below [[(1, none)], [(3, some 0)], [(4, some 1)], [(1, none)], [(6, some 3)], [(7, some 4)], [(5, some 2), (8, some 5)], [(9, some 6)], [(10, some 7)]] [eqv _, eqv _, eqv _, eqv _, eqv _, eqv _, blkRow 2 2 #[.string ⟨x.toArray⟩, .string ⟨y.toArray⟩] 9, eqv _, eqv _] (by kernel_rfl) (by kernel_rfl)
  case hobs =>
    refine ⟨?_, ?_⟩
    · rintro L a1 w1 hT - - ⟨h1, -⟩   -- 0: Op.fieldAddr 69 t1 0
      have e1 : a1.tmps.getD 1 undef = _ := h1
      have f1 := getD_form e1
      clear h1
      go_simp; exact left_intro rfl (Stp.refl _) trivial
    refine ⟨?_, ?_⟩
    · rintro L a1 w1 hT - - ⟨h3, -⟩   -- 1: Op.load 65 t3
      have e3 : a1.tmps.getD 3 undef = _ := h3
      have f3 := getD_form e3
      clear h3
      exact wp_load_mid 65 (.tmp 3) rfl w.heap.size 0 e3 c _ (range_stp r0 h0 hT) Try.underlying65 (by rfl) hsa (left_intro rfl (Stp.refl _) trivial)
    refine ⟨?_, ?_⟩
    · rintro L a1 w1 hT - - ⟨h4, -⟩   -- 2: Op.call { value (Operand.func 129), args := #[t4], argTypes := #[65] }
      have e4 : a1.tmps.getD 4 undef = _ := h4
      have f4 := getD_form e4
      clear h4
      go_simp; go_at_call 129; (with_reducible refine (TA.out _).mono ?_); rintro e w2 ⟨rfl, hb⟩; exact left_intro rfl (Stp.of hb) trivial
    refine ⟨?_, ?_⟩
    · rintro L a1 w1 hT - - ⟨h1, -⟩   -- 3: Op.fieldAddr 69 t1 1
      have e1 : a1.tmps.getD 1 undef = _ := h1
      have f1 := getD_form e1
      clear h1
      go_simp; exact left_intro rfl (Stp.refl _) trivial
    refine ⟨?_, ?_⟩
    · rintro L a1 w1 hT - - ⟨h6, -⟩   -- 4: Op.load 65 t6
      have e6 : a1.tmps.getD 6 undef = _ := h6
      have f6 := getD_form e6
      clear h6
      exact wp_load_mid 65 (.tmp 6) rfl w.heap.size 66 e6 c' _ (range_stp r1 h0 hT) Try.underlying65 (by rfl) hsb (left_intro rfl (Stp.refl _) trivial)
    refine ⟨?_, ?_⟩
    · rintro L a1 w1 hT - - ⟨h7, -⟩   -- 5: Op.call { value (Operand.func 129), args := #[t7], argTypes := #[65] }
      have e7 : a1.tmps.getD 7 undef = _ := h7
      have f7 := getD_form e7
      clear h7
      go_simp; go_at_call 129; (with_reducible refine (TB.out _).mono ?_); rintro e w2 ⟨rfl, hb⟩; exact left_intro rfl (Stp.of hb) trivial
    refine ⟨?_, ?_⟩
    · rintro L a1 w1 hT - - ⟨h5, h8, -⟩   -- 6: Op.buildSlice 38 2 #[(0, t5), (1, t8)]
      have e5 : a1.tmps.getD 5 undef = _ := h5
      have f5 := getD_form e5
      have e8 : a1.tmps.getD 8 undef = _ := h8
      have f8 := getD_form e8
      clear h5 h8
      go_simp; exact left_intro (T := Stp) (Ph := fun _ _ _ => True) (blkRow_new _ _ _ _ _) (Stp.alloc _ _) trivial
    refine ⟨?_, ?_⟩
    · rintro L a1 w1 hT - - ⟨h9, -⟩   -- 7: Op.call { value (Operand.func 113), args := #[const (17:u8), t9], argTypes := #[5, 38] }
      obtain ⟨b9, e9, B9⟩ : (blkRow 2 2 #[.string ⟨x.toArray⟩, .string ⟨y.toArray⟩] 9) (a1.tmps.getD 9 undef) w1 := h9
      have f9 := getD_form e9
      have s9 : SRead w1 (.slice (some ⟨b9, 0, none⟩) 2 2) ([x, y].map strV) := sread_blk B9
      go_simp; go_at_call 113; (with_reducible refine (RB.out _ _ s9).mono ?_); rintro e w2 ⟨rfl, hb⟩; exact left_intro rfl (Stp.of hb) trivial
    refine ⟨?_, ?_⟩
    · rintro L a1 w1 hT - - ⟨h10, -⟩   -- 8: Op.assign t10
      have e10 : a1.tmps.getD 10 undef = _ := h10
      have f10 := getD_form e10
      clear h10
      go_simp; exact left_intro rfl (Stp.refl _) trivial
    trivial
  case hmono => repeat (first | exact trivial | refine ⟨fun _ _ _ _ h => h, ?_⟩ | refine ⟨mono_blkRow _ _ _ _, ?_⟩)
  case hend =>
    intro w2 hT
    rintro _ rfl _ rfl _ rfl _ rfl _ rfl _ rfl v9 - _ rfl _ rfl
    simp only [relEnd, Act.put, List.setIfInBounds_toArray, List.set_cons_succ, List.set_cons_zero]
    go_wp2
    go_ret
    exact ⟨rfl, hB.trans (Below.mono hT (by have := h0; exact hB.size))⟩
theorem fresh_told (w : World) : (Instr.alloc 72 true (.tuple #[])).run Try.prog w = .ok (.pointer (some ⟨w.heap.size, 0, none⟩)) (w.alloc (.cells (itemC 0 zlab zlab 0).toArray 72)) := by kernel_rfl
set_option maxRecDepth 100000 in
set_option maxHeartbeats 1000000 in
theorem told_any (n : Int) (p s : List UInt8) (t : Int) (hp : p.length = 32) (hs : s.length = 32) (w : World) :
    Calls Try.prog 46 #[.agg (itemC n p s t).toArray] w fun e w' => e = .returned (.agg (itemC n p s t).toArray) ∧ Below w.heap.size w w' := by
  have hsz : (Try.prog.info? 72).map (·.size) = some (itemC n p s t).toArray.size := by rw [List.size_toArray, itemC_length n p s t hp hs]; exact info_ritem
  have B0 := (Blk.new w (itemC n p s t).toArray 65).alloc (.cells (itemC 0 zlab zlab 0).toArray 72)
  have B1 := blk_new1 w (.cells (itemC n p s t).toArray 65) (itemC 0 zlab zlab 0).toArray 72
  have hB := (below_alloc1 w (.cells (itemC n p s t).toArray 65)).alloc (o := .cells (itemC 0 zlab zlab 0).toArray 72) (by simp)
  have c0 : ((w.alloc (.cells (itemC n p s t).toArray 65)).alloc (.cells (itemC 0 zlab zlab 0).toArray 72)).cell? ⟨w.heap.size, 0, none⟩ = some (.int .i64 n) := (B0.cell 0).trans (by rw [List.getElem?_toArray]; exact itemC_len n p s t)
  have c3 : ((w.alloc (.cells (itemC n p s t).toArray 65)).alloc (.cells (itemC 0 zlab zlab 0).toArray 72)).cell? ⟨w.heap.size, 65, none⟩ = some (.int .i64 t) := (B0.cell 65).trans (by rw [List.getElem?_toArray]; exact itemC_at n p s t hp hs)
  have e1 : ∀ j, j < (labA p).size → (itemC n p s t).toArray[1 + j]? = (labA p)[j]? := fun j hj => by
    rw [labA_size] at hj
    rw [List.getElem?_toArray, labA_byte p j hj]
    exact itemC_pre n p s t j _ (by rw [List.getElem?_map, List.getElem?_eq_getElem hj, List.getD_eq_getElem?_getD, List.getElem?_eq_getElem hj]; rfl)
  have e2 : ∀ j, j < (labA s).size → (itemC n p s t).toArray[33 + j]? = (labA s)[j]? := fun j hj => by
    rw [labA_size] at hj
    rw [List.getElem?_toArray, labA_byte s j hj]
    exact itemC_sum n p s t hp j _ (by rw [List.getElem?_map, List.getElem?_eq_getElem hj, List.getD_eq_getElem?_getD, List.getElem?_eq_getElem hj]; rfl)
  go_enter Try.func46, Try.ntmps46
  go_wp2_with (first | (refine wpList_fresh (by rfl) 72 (by rfl) _ fresh_told ?_; simp only [Act.put, List.setIfInBounds_toArray, List.set_cons_succ, List.set_cons_zero]; try simp only [World.size_alloc]) | (refine wpList_load_blk (by rfl) 25 (.tmp 7) (by rfl) (1) (by rfl) (B0) (labA p) (e1) _ Try.underlying25 (by rfl) (size_lab p hp) ?_; simp only [Act.put, List.setIfInBounds_toArray, List.set_cons_succ, List.set_cons_zero]) | (refine wpList_load_blk (by rfl) 25 (.tmp 9) (by rfl) (33) (by rfl) (B0) (labA s) (e2) _ Try.underlying25 (by rfl) (size_lab s hs) ?_; simp only [Act.put, List.setIfInBounds_toArray, List.set_cons_succ, List.set_cons_zero]) | (refine wpList_build (by rfl) 72 ([(0, .tmp 5), (1, .tmp 8), (2, .tmp 10), (3, .tmp 12)]) (by rfl) ([(0, .int .i64 n), (1, .agg (labA p)), (2, .agg (labA s)), (3, .int .i64 t)]) (by rfl) (.agg (itemC n p s t).toArray) (build_told n t p s hp hs) ?_; simp only [Act.put, List.setIfInBounds_toArray, List.set_cons_succ, List.set_cons_zero]) | ((refine wpList_store_blk (by rfl) 72 (.tmp 2) (.tmp 13) (by rfl) (0) ((itemC n p s t).toArray) (by rfl) (by rfl) (B1) ((by rw [List.size_toArray, List.size_toArray, itemC_length n p s t hp hs, itemC_length 0 zlab zlab 0 rfl rfl]; decide)) hsz (itemC_one n p s t) ?_; simp only [Act.put]); intro w9 b9 o9))
  rw [splice_all _ _ (by rw [List.size_toArray, List.size_toArray, itemC_length n p s t hp hs, itemC_length 0 zlab zlab 0 rfl rfl])] at b9
  exact bodyPost_ret (v := .agg (itemC n p s t).toArray) (results_blk (by rfl) _ b9 _ (by rfl) Try.underlying72 (by rfl) hsz) rfl ⟨rfl, o9.below hB (by omega)⟩
end Go.Proofs.Ytgjmnhbkdccgpaa

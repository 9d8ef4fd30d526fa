/- The walks of what is summed of leaves and of items: node.text, LeafBytes, InnerBytes, and the document's. -/
import Derived.Test.YtgjmnhbkdccgpaaWNJoin
import Derived.Test.YtgjmnhbkdccgpaaWEight
import Derived.Test.YtgjmnhbkdccgpaaKitN
namespace Go.Proofs.Ytgjmnhbkdccgpaa
open Go.RowKit

namespace D
/-- An item, as it is summed. -/
def itemT (n : Int) (p s : List UInt8) (t : Int) : List UInt8 := eight n ++ p ++ s ++ eight t
def leafT (l v : List UInt8) (t : Int) : List UInt8 := J.joinB 16 [l, v, eight t]
def innerT (a b : List UInt8) : List UInt8 := J.joinB 17 [a, b]
end D
theorem itemT_len (n : Int) (p s : List UInt8) (t : Int) (hp : p.length = 32) (hs : s.length = 32) : (D.itemT n p s t).length = 80 := by
  simp [D.itemT, D.eight_length, hp, hs]
theorem leafT_len (l v : List UInt8) (t : Int) (hl : l.length = 32) (hv : v.length = 32) : (J.joinB 16 [l, v, D.eight t]).length ≤ 140737488355000 := by
  simp [J.joinB, J.joins, J.one, J.len4_length, hl, hv, D.eight_length]
theorem innerT_len (a b : List UInt8) (ha : a.length = 80) (hb : b.length = 80) : (J.joinB 17 [a, b]).length ≤ 140737488355000 := by
  simp [J.joinB, J.joins, J.one, J.len4_length, ha, hb]
theorem sread_blk {w : World} {b : Nat} {xs : List Value} {t : TypeId} (B : Blk w b xs.toArray t) : SRead w (.slice (some ⟨b, 0, none⟩) xs.length xs.length) xs :=
  ⟨_, _, rfl, Nat.le_refl _, .inr ⟨b, 0, rfl, B.lt, fun j u hj => by rw [Nat.zero_add]; exact (B.cell j).trans (by rw [List.getElem?_toArray]; exact hj)⟩⟩
set_option maxRecDepth 100000 in
set_option maxHeartbeats 1000000 in
theorem rleafB_any (l v : List UInt8) (t : Int) (hl : l.length = 32) (hv : v.length = 32) (w : World) :
    Calls Try.prog 51 #[.agg (leafC l v t).toArray] w fun e w' => e = .returned (.string ⟨(D.leafT l v t).toArray⟩) ∧ Below w.heap.size w w' := by
  have EE := Lib.hid (fun W => eight_any t W)
  have hjl := leafT_len l v t hl hv
  have RB := Lib.hid (fun v1 W (h : SRead W v1 ([l, v, D.eight t].map strV)) => rbytes_lit 16 16 rfl [l, v, D.eight t] v1 W h hjl)
  rw [show J.joinB 16 [l, v, D.eight t] = D.leafT l v t from rfl] at RB
  clear hjl
  have B0 : Blk (w.alloc (.cells (leafC l v t).toArray 77)) w.heap.size (leafC l v t).toArray 77 := Blk.new _ _ _
  have hB := below_alloc1 w (.cells (leafC l v t).toArray 77)
  go_enter Try.func51, Try.ntmps51
  go_wp2
  generalize w.alloc (.cells (leafC l v t).toArray 77) = w0 at *
  have hlt : w.heap.size < w0.drew.heap.size := B0.lt
  have r1 : w0.drew.rangeAt w.heap.size 0 (l.map byteV) := blk_rangeL (o := 0) B0.drew (fun j u h => by rw [Nat.zero_add]; exact leafC_lab l v t j u h)
  have r2 : w0.drew.rangeAt w.heap.size 32 (v.map byteV) := blk_rangeL (o := 32) B0.drew (leafC_val l v t hl)
  have r3 : w0.drew.cell? ⟨w.heap.size, 64, none⟩ = some (.int .i64 t) := (B0.drew.cell 64).trans (by rw [List.getElem?_toArray]; exact leafC_at l v t hl hv)
  have hc1 : ∀ W, Stp w0.drew W → (convert 36 9 (.slice (some ⟨w.heap.size, 0, none⟩) 32 32)).run Try.prog W = .ok (.string ⟨l.toArray⟩) W := fun W h => conv_at hl (range_stp r1 hlt h)
  have hc2 : ∀ W, Stp w0.drew W → (convert 36 9 (.slice (some ⟨w.heap.size, 32, none⟩) 32 32)).run Try.prog W = .ok (.string ⟨v.toArray⟩) W := fun W h => conv_at hv (range_stp r2 hlt h)
  have hc3 : ∀ W, Stp w0.drew W → W.cell? ⟨w.heap.size, 64, none⟩ = some (.int .i64 t) := fun W h => (Below.cell (p := ⟨w.heap.size, 64, none⟩) h hlt).trans r3
  clear r1 r2 r3 B0
  apply wp_region_rel_below [[(1, none)], [(3, some 0)], [(4, some 1)], [(1, none)], [(6, some 3)], [(7, some 4)], [(1, none)], [(9, some 6)], [(10, some 7)], [(5, some 2), (8, some 5), (11, some 8)], [(12, some 9)], [(13, some 10)]] [eqv _, eqv _, eqv _, eqv _, eqv _, eqv _, eqv _, eqv _, eqv _, blkRow 3 3 #[.string ⟨l.toArray⟩, .string ⟨v.toArray⟩, .string ⟨(D.eight t).toArray⟩] 9, eqv _, eqv _] (by kernel_rfl) (by kernel_rfl)
  case hobs =>
    refine ⟨?_, ?_⟩
    · rintro L a1 w1 hT - - ⟨h1, -⟩   -- 0: Op.fieldAddr 77 t1 0
      have e1 : a1.tmps.getD 1 undef = _ := h1
      have f1 := getD_form e1
      clear h1
      go_simp; exact left_intro rfl (Stp.refl _) trivial
    refine ⟨?_, ?_⟩
    · rintro L a1 w1 hT - - ⟨h3, -⟩   -- 1: Op.slice 25 t3 none none none
      have e3 : a1.tmps.getD 3 undef = _ := h3
      have f3 := getD_form e3
      clear h3
      go_simp; exact left_intro rfl (Stp.refl _) trivial
    refine ⟨?_, ?_⟩
    · rintro L a1 w1 hT - - ⟨h4, -⟩   -- 2: Op.convert 36 9 t4
      have e4 : a1.tmps.getD 4 undef = _ := h4
      have f4 := getD_form e4
      clear h4
      have c5 := hc1 w1 hT
      go_simp; exact left_intro rfl (Stp.refl _) trivial
    refine ⟨?_, ?_⟩
    · rintro L a1 w1 hT - - ⟨h1, -⟩   -- 3: Op.fieldAddr 77 t1 1
      have e1 : a1.tmps.getD 1 undef = _ := h1
      have f1 := getD_form e1
      clear h1
      go_simp; exact left_intro rfl (Stp.refl _) trivial
    refine ⟨?_, ?_⟩
    · rintro L a1 w1 hT - - ⟨h6, -⟩   -- 4: Op.slice 25 t6 none none none
      have e6 : a1.tmps.getD 6 undef = _ := h6
      have f6 := getD_form e6
      clear h6
      go_simp; exact left_intro rfl (Stp.refl _) trivial
    refine ⟨?_, ?_⟩
    · rintro L a1 w1 hT - - ⟨h7, -⟩   -- 5: Op.convert 36 9 t7
      have e7 : a1.tmps.getD 7 undef = _ := h7
      have f7 := getD_form e7
      clear h7
      have c8 := hc2 w1 hT
      go_simp; exact left_intro rfl (Stp.refl _) trivial
    refine ⟨?_, ?_⟩
    · rintro L a1 w1 hT - - ⟨h1, -⟩   -- 6: Op.fieldAddr 77 t1 2
      have e1 : a1.tmps.getD 1 undef = _ := h1
      have f1 := getD_form e1
      clear h1
      go_simp; exact left_intro rfl (Stp.refl _) trivial
    refine ⟨?_, ?_⟩
    · rintro L a1 w1 hT - - ⟨h9, -⟩   -- 7: Op.load 3 t9
      have e9 : a1.tmps.getD 9 undef = _ := h9
      have f9 := getD_form e9
      clear h9
      have c10 := hc3 w1 hT
      go_simp; exact left_intro rfl (Stp.refl _) trivial
    refine ⟨?_, ?_⟩
    · rintro L a1 w1 hT - - ⟨h10, -⟩   -- 8: Op.call { value (Operand.func 81), args := #[t10], argTypes := #[3] }
      have e10 : a1.tmps.getD 10 undef = _ := h10
      have f10 := getD_form e10
      clear h10
      go_simp; go_at_call 81; (with_reducible refine (EE.out _).mono ?_); rintro e w2 ⟨rfl, hb⟩; exact left_intro rfl (Stp.of hb) trivial
    refine ⟨?_, ?_⟩
    · rintro L a1 w1 hT - - ⟨h5, h8, h11, -⟩   -- 9: Op.buildSlice 38 3 #[(0, t5), (1, t8), (2, t11)]
      have e5 : a1.tmps.getD 5 undef = _ := h5
      have f5 := getD_form e5
      have e8 : a1.tmps.getD 8 undef = _ := h8
      have f8 := getD_form e8
      have e11 : a1.tmps.getD 11 undef = _ := h11
      have f11 := getD_form e11
      clear h5 h8 h11
      go_simp; exact left_intro (T := Stp) (Ph := fun _ _ _ => True) (blkRow_new _ _ _ _ _) (Stp.alloc _ _) trivial
    refine ⟨?_, ?_⟩
    · rintro L a1 w1 hT - - ⟨h12, -⟩   -- 10: Op.call { value (Operand.func 26), args := #[const (16:u8), t12], argTypes := #[5, 38] }
      obtain ⟨b12, e12, B12⟩ : (blkRow 3 3 #[.string ⟨l.toArray⟩, .string ⟨v.toArray⟩, .string ⟨(D.eight t).toArray⟩] 9) (a1.tmps.getD 12 undef) w1 := h12
      have f12 := getD_form e12
      have s12 : SRead w1 (.slice (some ⟨b12, 0, none⟩) 3 3) ([l, v, D.eight t].map strV) := sread_blk B12
      go_simp; go_at_call 26; (with_reducible refine (RB.out _ _ s12).mono ?_); rintro e w2 ⟨rfl, hb⟩; exact left_intro rfl (Stp.of hb) trivial
    refine ⟨?_, ?_⟩
    · rintro L a1 w1 hT - - ⟨h13, -⟩   -- 11: Op.assign t13
      have e13 : a1.tmps.getD 13 undef = _ := h13
      have f13 := getD_form e13
      clear h13
      go_simp; exact left_intro rfl (Stp.refl _) trivial
    trivial
  case hmono => repeat (first | exact trivial | refine ⟨fun _ _ _ _ h => h, ?_⟩ | refine ⟨mono_blkRow _ _ _ _, ?_⟩)
  case hend =>
    intro w2 hT
    rintro _ rfl _ rfl _ rfl _ rfl _ rfl _ rfl _ rfl _ rfl _ rfl v12 - _ rfl _ rfl
    simp only [relEnd, Act.put, List.setIfInBounds_toArray, List.set_cons_succ, List.set_cons_zero]
    go_wp2
    go_ret
    exact ⟨rfl, hB.trans (Below.mono hT (by have := hlt; exact hB.size))⟩
set_option maxRecDepth 100000 in
set_option maxHeartbeats 1000000 in
theorem leafB_any (l v : List UInt8) (t : Int) (hl : l.length = 32) (hv : v.length = 32) (w : World) :
    Calls Try.prog 84 #[.agg (leafC l v t).toArray] w fun e w' => e = .returned (.string ⟨(D.leafT l v t).toArray⟩) ∧ Below w.heap.size w w' := by
  have EE := Lib.hid (fun W => num8_any t W)
  have hjl := leafT_len l v t hl hv
  have RB := Lib.hid (fun v1 W (h : SRead W v1 ([l, v, D.eight t].map strV)) => njoined_lit 16 16 rfl [l, v, D.eight t] v1 W h hjl)
  rw [show J.joinB 16 [l, v, D.eight t] = D.leafT l v t from rfl] at RB
  clear hjl
  have B0 : Blk (w.alloc (.cells (leafC l v t).toArray 61)) w.heap.size (leafC l v t).toArray 61 := Blk.new _ _ _
  have hB := below_alloc1 w (.cells (leafC l v t).toArray 61)
  go_enter Try.func84, Try.ntmps84
  go_wp2
  generalize w.alloc (.cells (leafC l v t).toArray 61) = w0 at *
  have hlt : w.heap.size < w0.drew.heap.size := B0.lt
  have r1 : w0.drew.rangeAt w.heap.size 0 (l.map byteV) := blk_rangeL (o := 0) B0.drew (fun j u h => by rw [Nat.zero_add]; exact leafC_lab l v t j u h)
  have r2 : w0.drew.rangeAt w.heap.size 32 (v.map byteV) := blk_rangeL (o := 32) B0.drew (leafC_val l v t hl)
  have r3 : w0.drew.cell? ⟨w.heap.size, 64, none⟩ = some (.int .i64 t) := (B0.drew.cell 64).trans (by rw [List.getElem?_toArray]; exact leafC_at l v t hl hv)
  have hc1 : ∀ W, Stp w0.drew W → (convert 36 9 (.slice (some ⟨w.heap.size, 0, none⟩) 32 32)).run Try.prog W = .ok (.string ⟨l.toArray⟩) W := fun W h => conv_at hl (range_stp r1 hlt h)
  have hc2 : ∀ W, Stp w0.drew W → (convert 36 9 (.slice (some ⟨w.heap.size, 32, none⟩) 32 32)).run Try.prog W = .ok (.string ⟨v.toArray⟩) W := fun W h => conv_at hv (range_stp r2 hlt h)
  have hc3 : ∀ W, Stp w0.drew W → W.cell? ⟨w.heap.size, 64, none⟩ = some (.int .i64 t) := fun W h => (Below.cell (p := ⟨w.heap.size, 64, none⟩) h hlt).trans r3
  clear r1 r2 r3 B0
  apply wp_region_rel_below [[(1, none)], [(3, some 0)], [(4, some 1)], [(1, none)], [(6, some 3)], [(7, some 4)], [(1, none)], [(9, some 6)], [(10, some 7)], [(5, some 2), (8, some 5), (11, some 8)], [(12, some 9)], [(13, some 10)]] [eqv _, eqv _, eqv _, eqv _, eqv _, eqv _, eqv _, eqv _, eqv _, blkRow 3 3 #[.string ⟨l.toArray⟩, .string ⟨v.toArray⟩, .string ⟨(D.eight t).toArray⟩] 9, eqv _, eqv _] (by kernel_rfl) (by kernel_rfl)
  case hobs =>
    refine ⟨?_, ?_⟩
    · rintro L a1 w1 hT - - ⟨h1, -⟩   -- 0: Op.fieldAddr 61 t1 0
      have e1 : a1.tmps.getD 1 undef = _ := h1
      have f1 := getD_form e1
      clear h1
      go_simp; exact left_intro rfl (Stp.refl _) trivial
    refine ⟨?_, ?_⟩
    · rintro L a1 w1 hT - - ⟨h3, -⟩   -- 1: Op.slice 25 t3 none none none
      have e3 : a1.tmps.getD 3 undef = _ := h3
      have f3 := getD_form e3
      clear h3
      go_simp; exact left_intro rfl (Stp.refl _) trivial
    refine ⟨?_, ?_⟩
    · rintro L a1 w1 hT - - ⟨h4, -⟩   -- 2: Op.convert 36 9 t4
      have e4 : a1.tmps.getD 4 undef = _ := h4
      have f4 := getD_form e4
      clear h4
      have c5 := hc1 w1 hT
      go_simp; exact left_intro rfl (Stp.refl _) trivial
    refine ⟨?_, ?_⟩
    · rintro L a1 w1 hT - - ⟨h1, -⟩   -- 3: Op.fieldAddr 61 t1 1
      have e1 : a1.tmps.getD 1 undef = _ := h1
      have f1 := getD_form e1
      clear h1
      go_simp; exact left_intro rfl (Stp.refl _) trivial
    refine ⟨?_, ?_⟩
    · rintro L a1 w1 hT - - ⟨h6, -⟩   -- 4: Op.slice 25 t6 none none none
      have e6 : a1.tmps.getD 6 undef = _ := h6
      have f6 := getD_form e6
      clear h6
      go_simp; exact left_intro rfl (Stp.refl _) trivial
    refine ⟨?_, ?_⟩
    · rintro L a1 w1 hT - - ⟨h7, -⟩   -- 5: Op.convert 36 9 t7
      have e7 : a1.tmps.getD 7 undef = _ := h7
      have f7 := getD_form e7
      clear h7
      have c8 := hc2 w1 hT
      go_simp; exact left_intro rfl (Stp.refl _) trivial
    refine ⟨?_, ?_⟩
    · rintro L a1 w1 hT - - ⟨h1, -⟩   -- 6: Op.fieldAddr 61 t1 2
      have e1 : a1.tmps.getD 1 undef = _ := h1
      have f1 := getD_form e1
      clear h1
      go_simp; exact left_intro rfl (Stp.refl _) trivial
    refine ⟨?_, ?_⟩
    · rintro L a1 w1 hT - - ⟨h9, -⟩   -- 7: Op.load 3 t9
      have e9 : a1.tmps.getD 9 undef = _ := h9
      have f9 := getD_form e9
      clear h9
      have c10 := hc3 w1 hT
      go_simp; exact left_intro rfl (Stp.refl _) trivial
    refine ⟨?_, ?_⟩
    · rintro L a1 w1 hT - - ⟨h10, -⟩   -- 8: Op.call { value (Operand.func 114), args := #[t10], argTypes := #[3] }
      have e10 : a1.tmps.getD 10 undef = _ := h10
      have f10 := getD_form e10
      clear h10
      go_simp; go_at_call 114; (with_reducible refine (EE.out _).mono ?_); rintro e w2 ⟨rfl, hb⟩; exact left_intro rfl (Stp.of hb) trivial
    refine ⟨?_, ?_⟩
    · rintro L a1 w1 hT - - ⟨h5, h8, h11, -⟩   -- 9: Op.buildSlice 38 3 #[(0, t5), (1, t8), (2, t11)]
      have e5 : a1.tmps.getD 5 undef = _ := h5
      have f5 := getD_form e5
      have e8 : a1.tmps.getD 8 undef = _ := h8
      have f8 := getD_form e8
      have e11 : a1.tmps.getD 11 undef = _ := h11
      have f11 := getD_form e11
      clear h5 h8 h11
      go_simp; exact left_intro (T := Stp) (Ph := fun _ _ _ => True) (blkRow_new _ _ _ _ _) (Stp.alloc _ _) trivial
    refine ⟨?_, ?_⟩
    · rintro L a1 w1 hT - - ⟨h12, -⟩   -- 10: Op.call { value (Operand.func 113), args := #[const (16:u8), t12], argTypes := #[5, 38] }
      obtain ⟨b12, e12, B12⟩ : (blkRow 3 3 #[.string ⟨l.toArray⟩, .string ⟨v.toArray⟩, .string ⟨(D.eight t).toArray⟩] 9) (a1.tmps.getD 12 undef) w1 := h12
      have f12 := getD_form e12
      have s12 : SRead w1 (.slice (some ⟨b12, 0, none⟩) 3 3) ([l, v, D.eight t].map strV) := sread_blk B12
      go_simp; go_at_call 113; (with_reducible refine (RB.out _ _ s12).mono ?_); rintro e w2 ⟨rfl, hb⟩; exact left_intro rfl (Stp.of hb) trivial
    refine ⟨?_, ?_⟩
    · rintro L a1 w1 hT - - ⟨h13, -⟩   -- 11: Op.assign t13
      have e13 : a1.tmps.getD 13 undef = _ := h13
      have f13 := getD_form e13
      clear h13
      go_simp; exact left_intro rfl (Stp.refl _) trivial
    trivial
  case hmono => repeat (first | exact trivial | refine ⟨fun _ _ _ _ h => h, ?_⟩ | refine ⟨mono_blkRow _ _ _ _, ?_⟩)
  case hend =>
    intro w2 hT
    rintro _ rfl _ rfl _ rfl _ rfl _ rfl _ rfl _ rfl _ rfl _ rfl v12 - _ rfl _ rfl
    simp only [relEnd, Act.put, List.setIfInBounds_toArray, List.set_cons_succ, List.set_cons_zero]
    go_wp2
    go_ret
    exact ⟨rfl, hB.trans (Below.mono hT (by have := hlt; exact hB.size))⟩
set_option maxRecDepth 100000 in
set_option maxHeartbeats 1000000 in
theorem rtextI_any (n : Int) (p s : List UInt8) (t : Int) (hp : p.length = 32) (hs : s.length = 32) (w : World) :
    Calls Try.prog 82 #[.agg (itemC n p s t).toArray] w fun e w' => e = .returned (.string ⟨(D.itemT n p s t).toArray⟩) ∧ Below w.heap.size w w' := by
  have EN := Lib.hid (fun W => eight_any n W)
  have ET := Lib.hid (fun W => eight_any t W)
  have le := D.eight_length
  have sa1 := str_add (D.eight n) p (by rw [le]; omega)
  have sa2 := str_add (D.eight n ++ p) s (by rw [List.length_append, le]; omega)
  have sa3 := str_add (D.eight n ++ p ++ s) (D.eight t) (by rw [List.length_append, List.length_append, le, le]; omega)
  rw [show D.eight n ++ p ++ s ++ D.eight t = D.itemT n p s t from rfl] at sa3
  have B0 : Blk (w.alloc (.cells (itemC n p s t).toArray 72)) w.heap.size (itemC n p s t).toArray 72 := Blk.new _ _ _
  have hB := below_alloc1 w (.cells (itemC n p s t).toArray 72)
  go_enter Try.func82, Try.ntmps82
  go_wp2
  generalize w.alloc (.cells (itemC n p s t).toArray 72) = w0 at *
  have hlt : w.heap.size < w0.drew.heap.size := B0.lt
  have r1 : w0.drew.rangeAt w.heap.size 1 (p.map byteV) := blk_rangeL (o := 1) B0.drew (itemC_pre n p s t)
  have r2 : w0.drew.rangeAt w.heap.size 33 (s.map byteV) := blk_rangeL (o := 33) B0.drew (itemC_sum n p s t hp)
  have r3 : w0.drew.cell? ⟨w.heap.size, 65, none⟩ = some (.int .i64 t) := (B0.drew.cell 65).trans (by rw [List.getElem?_toArray]; exact itemC_at n p s t hp hs)
  have r0 : w0.drew.cell? ⟨w.heap.size, 0, none⟩ = some (.int .i64 n) := (B0.drew.cell 0).trans (by rw [List.getElem?_toArray]; rfl)
  have hc0 : ∀ W, Stp w0.drew W → W.cell? ⟨w.heap.size, 0, none⟩ = some (.int .i64 n) := fun W h => (Below.cell (p := ⟨w.heap.size, 0, none⟩) h hlt).trans r0
  have hc1 : ∀ W, Stp w0.drew W → (convert 36 9 (.slice (some ⟨w.heap.size, 1, none⟩) 32 32)).run Try.prog W = .ok (.string ⟨p.toArray⟩) W := fun W h => conv_at hp (range_stp r1 hlt h)
  have hc2 : ∀ W, Stp w0.drew W → (convert 36 9 (.slice (some ⟨w.heap.size, 33, none⟩) 32 32)).run Try.prog W = .ok (.string ⟨s.toArray⟩) W := fun W h => conv_at hs (range_stp r2 hlt h)
  have hc3 : ∀ W, Stp w0.drew W → W.cell? ⟨w.heap.size, 65, none⟩ = some (.int .i64 t) := fun W h => (Below.cell (p := ⟨w.heap.size, 65, none⟩) h hlt).trans r3
  clear r0 r1 r2 r3 B0 le
  generalize hR3 : (⟨(D.itemT n p s t).toArray⟩ : ByteArray) = R3 at *
  have HR3 := Lib.hid hR3
  clear hR3
  generalize (⟨(D.eight n ++ p ++ s).toArray⟩ : ByteArray) = R2 at *
  generalize (⟨(D.eight n ++ p).toArray⟩ : ByteArray) = R1 at *
  generalize (⟨(D.eight n).toArray⟩ : ByteArray) = EN1 at *
  generalize (⟨(D.eight t).toArray⟩ : ByteArray) = ET1 at *
  generalize (⟨p.toArray⟩ : ByteArray) = P at *
  generalize (⟨s.toArray⟩ : ByteArray) = S at *
  apply wp_region_rel_below [[(1, none)], [(3, some 0)], [(4, some 1)], [(1, none)], [(6, some 3)], [(7, some 4)], [(5, some 2), (8, some 5)], [(1, none)], [(10, some 7)], [(11, some 8)], [(9, some 6), (12, some 9)], [(1, none)], [(14, some 11)], [(15, some 12)], [(13, some 10), (16, some 13)], [(17, some 14)]] [eqv _, eqv _, eqv _, eqv _, eqv _, eqv _, eqv _, eqv _, eqv _, eqv _, eqv _, eqv _, eqv _, eqv _, eqv _, eqv _] (by kernel_rfl) (by kernel_rfl)
  case hobs =>
    refine ⟨?_, ?_⟩
    · rintro L a1 w1 hT - - ⟨h1, -⟩   -- 0: Op.fieldAddr 72 t1 0
      have e1 : a1.tmps.getD 1 undef = _ := h1
      have f1 := getD_form e1
      clear h1
      go_simp; exact left_intro rfl (Stp.refl _) trivial
    refine ⟨?_, ?_⟩
    · rintro L a1 w1 hT - - ⟨h3, -⟩   -- 1: Op.load 3 t3
      have e3 : a1.tmps.getD 3 undef = _ := h3
      have f3 := getD_form e3
      clear h3
      have c0 := hc0 w1 hT
      go_simp; exact left_intro rfl (Stp.refl _) trivial
    refine ⟨?_, ?_⟩
    · rintro L a1 w1 hT - - ⟨h4, -⟩   -- 2: Op.call { value (Operand.func 81), args := #[t4], argTypes := #[3] }
      have e4 : a1.tmps.getD 4 undef = _ := h4
      have f4 := getD_form e4
      clear h4
      go_simp; go_at_call 81; (with_reducible refine (EN.out _).mono ?_); rintro e w2 ⟨rfl, hb⟩; exact left_intro rfl (Stp.of hb) trivial
    refine ⟨?_, ?_⟩
    · rintro L a1 w1 hT - - ⟨h1, -⟩   -- 3: Op.fieldAddr 72 t1 1
      have e1 : a1.tmps.getD 1 undef = _ := h1
      have f1 := getD_form e1
      clear h1
      go_simp; exact left_intro rfl (Stp.refl _) trivial
    refine ⟨?_, ?_⟩
    · rintro L a1 w1 hT - - ⟨h6, -⟩   -- 4: Op.slice 25 t6 none none none
      have e6 : a1.tmps.getD 6 undef = _ := h6
      have f6 := getD_form e6
      clear h6
      go_simp; exact left_intro rfl (Stp.refl _) trivial
    refine ⟨?_, ?_⟩
    · rintro L a1 w1 hT - - ⟨h7, -⟩   -- 5: Op.convert 36 9 t7
      have e7 : a1.tmps.getD 7 undef = _ := h7
      have f7 := getD_form e7
      clear h7
      have c1 := hc1 w1 hT
      go_simp; exact left_intro rfl (Stp.refl _) trivial
    refine ⟨?_, ?_⟩
    · rintro L a1 w1 hT - - ⟨h5, h8, -⟩   -- 6: Op.binOp BinOp.add 9 t5 t8 9
      have e5 : a1.tmps.getD 5 undef = _ := h5
      have f5 := getD_form e5
      have e8 : a1.tmps.getD 8 undef = _ := h8
      have f8 := getD_form e8
      clear h5 h8
      go_simp; exact left_intro rfl (Stp.refl _) trivial
    refine ⟨?_, ?_⟩
    · rintro L a1 w1 hT - - ⟨h1, -⟩   -- 7: Op.fieldAddr 72 t1 2
      have e1 : a1.tmps.getD 1 undef = _ := h1
      have f1 := getD_form e1
      clear h1
      go_simp; exact left_intro rfl (Stp.refl _) trivial
    refine ⟨?_, ?_⟩
    · rintro L a1 w1 hT - - ⟨h10, -⟩   -- 8: Op.slice 25 t10 none none none
      have e10 : a1.tmps.getD 10 undef = _ := h10
      have f10 := getD_form e10
      clear h10
      go_simp; exact left_intro rfl (Stp.refl _) trivial
    refine ⟨?_, ?_⟩
    · rintro L a1 w1 hT - - ⟨h11, -⟩   -- 9: Op.convert 36 9 t11
      have e11 : a1.tmps.getD 11 undef = _ := h11
      have f11 := getD_form e11
      clear h11
      have c2 := hc2 w1 hT
      go_simp; exact left_intro rfl (Stp.refl _) trivial
    refine ⟨?_, ?_⟩
    · rintro L a1 w1 hT - - ⟨h9, h12, -⟩   -- 10: Op.binOp BinOp.add 9 t9 t12 9
      have e9 : a1.tmps.getD 9 undef = _ := h9
      have f9 := getD_form e9
      have e12 : a1.tmps.getD 12 undef = _ := h12
      have f12 := getD_form e12
      clear h9 h12
      go_simp; exact left_intro rfl (Stp.refl _) trivial
    refine ⟨?_, ?_⟩
    · rintro L a1 w1 hT - - ⟨h1, -⟩   -- 11: Op.fieldAddr 72 t1 3
      have e1 : a1.tmps.getD 1 undef = _ := h1
      have f1 := getD_form e1
      clear h1
      go_simp; exact left_intro rfl (Stp.refl _) trivial
    refine ⟨?_, ?_⟩
    · rintro L a1 w1 hT - - ⟨h14, -⟩   -- 12: Op.load 3 t14
      have e14 : a1.tmps.getD 14 undef = _ := h14
      have f14 := getD_form e14
      clear h14
      have c3 := hc3 w1 hT
      go_simp; exact left_intro rfl (Stp.refl _) trivial
    refine ⟨?_, ?_⟩
    · rintro L a1 w1 hT - - ⟨h15, -⟩   -- 13: Op.call { value (Operand.func 81), args := #[t15], argTypes := #[3] }
      have e15 : a1.tmps.getD 15 undef = _ := h15
      have f15 := getD_form e15
      clear h15
      go_simp; go_at_call 81; (with_reducible refine (ET.out _).mono ?_); rintro e w2 ⟨rfl, hb⟩; exact left_intro rfl (Stp.of hb) trivial
    refine ⟨?_, ?_⟩
    · rintro L a1 w1 hT - - ⟨h13, h16, -⟩   -- 14: Op.binOp BinOp.add 9 t13 t16 9
      have e13 : a1.tmps.getD 13 undef = _ := h13
      have f13 := getD_form e13
      have e16 : a1.tmps.getD 16 undef = _ := h16
      have f16 := getD_form e16
      clear h13 h16
      go_simp; exact left_intro rfl (Stp.refl _) trivial
    refine ⟨?_, ?_⟩
    · rintro L a1 w1 hT - - ⟨h17, -⟩   -- 15: Op.assign t17
      have e17 : a1.tmps.getD 17 undef = _ := h17
      have f17 := getD_form e17
      clear h17
      go_simp; exact left_intro rfl (Stp.refl _) trivial
    trivial
  case hmono => repeat (first | exact trivial | refine ⟨fun _ _ _ _ h => h, ?_⟩)
  case hend =>
    intro w2 hT
    rintro _ rfl _ rfl _ rfl _ rfl _ rfl _ rfl _ rfl _ rfl _ rfl _ rfl _ rfl _ rfl _ rfl _ rfl _ rfl _ rfl
    simp only [relEnd, Act.put, List.setIfInBounds_toArray, List.set_cons_succ, List.set_cons_zero]
    go_wp2
    go_ret
    exact ⟨by rw [HR3.out]; rfl, hB.trans (Below.mono hT (by have := hlt; exact hB.size))⟩
set_option maxRecDepth 100000 in
set_option maxHeartbeats 1000000 in
theorem textI_any (n : Int) (p s : List UInt8) (t : Int) (hp : p.length = 32) (hs : s.length = 32) (w : World) :
    Calls Try.prog 129 #[.agg (itemC n p s t).toArray] w fun e w' => e = .returned (.string ⟨(D.itemT n p s t).toArray⟩) ∧ Below w.heap.size w w' := by
  have EN := Lib.hid (fun W => num8_any n W)
  have ET := Lib.hid (fun W => num8_any t W)
  have le := D.eight_length
  have sa1 := str_add (D.eight n) p (by rw [le]; omega)
  have sa2 := str_add (D.eight n ++ p) s (by rw [List.length_append, le]; omega)
  have sa3 := str_add (D.eight n ++ p ++ s) (D.eight t) (by rw [List.length_append, List.length_append, le, le]; omega)
  rw [show D.eight n ++ p ++ s ++ D.eight t = D.itemT n p s t from rfl] at sa3
  have B0 : Blk (w.alloc (.cells (itemC n p s t).toArray 65)) w.heap.size (itemC n p s t).toArray 65 := Blk.new _ _ _
  have hB := below_alloc1 w (.cells (itemC n p s t).toArray 65)
  go_enter Try.func129, Try.ntmps129
  go_wp2
  generalize w.alloc (.cells (itemC n p s t).toArray 65) = w0 at *
  have hlt : w.heap.size < w0.drew.heap.size := B0.lt
  have r1 : w0.drew.rangeAt w.heap.size 1 (p.map byteV) := blk_rangeL (o := 1) B0.drew (itemC_pre n p s t)
  have r2 : w0.drew.rangeAt w.heap.size 33 (s.map byteV) := blk_rangeL (o := 33) B0.drew (itemC_sum n p s t hp)
  have r3 : w0.drew.cell? ⟨w.heap.size, 65, none⟩ = some (.int .i64 t) := (B0.drew.cell 65).trans (by rw [List.getElem?_toArray]; exact itemC_at n p s t hp hs)
  have r0 : w0.drew.cell? ⟨w.heap.size, 0, none⟩ = some (.int .i64 n) := (B0.drew.cell 0).trans (by rw [List.getElem?_toArray]; rfl)
  have hc0 : ∀ W, Stp w0.drew W → W.cell? ⟨w.heap.size, 0, none⟩ = some (.int .i64 n) := fun W h => (Below.cell (p := ⟨w.heap.size, 0, none⟩) h hlt).trans r0
  have hc1 : ∀ W, Stp w0.drew W → (convert 36 9 (.slice (some ⟨w.heap.size, 1, none⟩) 32 32)).run Try.prog W = .ok (.string ⟨p.toArray⟩) W := fun W h => conv_at hp (range_stp r1 hlt h)
  have hc2 : ∀ W, Stp w0.drew W → (convert 36 9 (.slice (some ⟨w.heap.size, 33, none⟩) 32 32)).run Try.prog W = .ok (.string ⟨s.toArray⟩) W := fun W h => conv_at hs (range_stp r2 hlt h)
  have hc3 : ∀ W, Stp w0.drew W → W.cell? ⟨w.heap.size, 65, none⟩ = some (.int .i64 t) := fun W h => (Below.cell (p := ⟨w.heap.size, 65, none⟩) h hlt).trans r3
  clear r0 r1 r2 r3 B0 le
  generalize hR3 : (⟨(D.itemT n p s t).toArray⟩ : ByteArray) = R3 at *
  have HR3 := Lib.hid hR3
  clear hR3
  generalize (⟨(D.eight n ++ p ++ s).toArray⟩ : ByteArray) = R2 at *
  generalize (⟨(D.eight n ++ p).toArray⟩ : ByteArray) = R1 at *
  generalize (⟨(D.eight n).toArray⟩ : ByteArray) = EN1 at *
  generalize (⟨(D.eight t).toArray⟩ : ByteArray) = ET1 at *
  generalize (⟨p.toArray⟩ : ByteArray) = P at *
  generalize (⟨s.toArray⟩ : ByteArray) = S at *
  apply wp_region_rel_below [[(1, none)], [(3, some 0)], [(4, some 1)], [(5, some 2)], [(1, none)], [(7, some 4)], [(8, some 5)], [(9, some 6)], [(6, some 3), (10, some 7)], [(1, none)], [(12, some 9)], [(13, some 10)], [(11, some 8), (14, some 11)], [(1, none)], [(16, some 13)], [(17, some 14)], [(15, some 12), (18, some 15)], [(19, some 16)]] [eqv _, eqv _, eqv _, eqv _, eqv _, eqv _, eqv _, eqv _, eqv _, eqv _, eqv _, eqv _, eqv _, eqv _, eqv _, eqv _, eqv _, eqv _] (by kernel_rfl) (by kernel_rfl)
  case hobs =>
    refine ⟨?_, ?_⟩
    · rintro L a1 w1 hT - - ⟨h1, -⟩   -- 0: Op.fieldAddr 65 t1 0
      have e1 : a1.tmps.getD 1 undef = _ := h1
      have f1 := getD_form e1
      clear h1
      go_simp; exact left_intro rfl (Stp.refl _) trivial
    refine ⟨?_, ?_⟩
    · rintro L a1 w1 hT - - ⟨h3, -⟩   -- 1: Op.fieldAddr 63 t3 0
      have e3 : a1.tmps.getD 3 undef = _ := h3
      have f3 := getD_form e3
      clear h3
      go_simp; exact left_intro rfl (Stp.refl _) trivial
    refine ⟨?_, ?_⟩
    · rintro L a1 w1 hT - - ⟨h4, -⟩   -- 2: Op.load 3 t4
      have e4 : a1.tmps.getD 4 undef = _ := h4
      have f4 := getD_form e4
      clear h4
      have c0 := hc0 w1 hT
      go_simp; exact left_intro rfl (Stp.refl _) trivial
    refine ⟨?_, ?_⟩
    · rintro L a1 w1 hT - - ⟨h5, -⟩   -- 3: Op.call { value (Operand.func 114), args := #[t5], argTypes := #[3] }
      have e5 : a1.tmps.getD 5 undef = _ := h5
      have f5 := getD_form e5
      clear h5
      go_simp; go_at_call 114; (with_reducible refine (EN.out _).mono ?_); rintro e w2 ⟨rfl, hb⟩; exact left_intro rfl (Stp.of hb) trivial
    refine ⟨?_, ?_⟩
    · rintro L a1 w1 hT - - ⟨h1, -⟩   -- 4: Op.fieldAddr 65 t1 0
      have e1 : a1.tmps.getD 1 undef = _ := h1
      have f1 := getD_form e1
      clear h1
      go_simp; exact left_intro rfl (Stp.refl _) trivial
    refine ⟨?_, ?_⟩
    · rintro L a1 w1 hT - - ⟨h7, -⟩   -- 5: Op.fieldAddr 63 t7 1
      have e7 : a1.tmps.getD 7 undef = _ := h7
      have f7 := getD_form e7
      clear h7
      go_simp; exact left_intro rfl (Stp.refl _) trivial
    refine ⟨?_, ?_⟩
    · rintro L a1 w1 hT - - ⟨h8, -⟩   -- 6: Op.slice 25 t8 none none none
      have e8 : a1.tmps.getD 8 undef = _ := h8
      have f8 := getD_form e8
      clear h8
      go_simp; exact left_intro rfl (Stp.refl _) trivial
    refine ⟨?_, ?_⟩
    · rintro L a1 w1 hT - - ⟨h9, -⟩   -- 7: Op.convert 36 9 t9
      have e9 : a1.tmps.getD 9 undef = _ := h9
      have f9 := getD_form e9
      clear h9
      have c1 := hc1 w1 hT
      go_simp; exact left_intro rfl (Stp.refl _) trivial
    refine ⟨?_, ?_⟩
    · rintro L a1 w1 hT - - ⟨h6, h10, -⟩   -- 8: Op.binOp BinOp.add 9 t6 t10 9
      have e6 : a1.tmps.getD 6 undef = _ := h6
      have f6 := getD_form e6
      have e10 : a1.tmps.getD 10 undef = _ := h10
      have f10 := getD_form e10
      clear h6 h10
      go_simp; exact left_intro rfl (Stp.refl _) trivial
    refine ⟨?_, ?_⟩
    · rintro L a1 w1 hT - - ⟨h1, -⟩   -- 9: Op.fieldAddr 65 t1 1
      have e1 : a1.tmps.getD 1 undef = _ := h1
      have f1 := getD_form e1
      clear h1
      go_simp; exact left_intro rfl (Stp.refl _) trivial
    refine ⟨?_, ?_⟩
    · rintro L a1 w1 hT - - ⟨h12, -⟩   -- 10: Op.slice 25 t12 none none none
      have e12 : a1.tmps.getD 12 undef = _ := h12
      have f12 := getD_form e12
      clear h12
      go_simp; exact left_intro rfl (Stp.refl _) trivial
    refine ⟨?_, ?_⟩
    · rintro L a1 w1 hT - - ⟨h13, -⟩   -- 11: Op.convert 36 9 t13
      have e13 : a1.tmps.getD 13 undef = _ := h13
      have f13 := getD_form e13
      clear h13
      have c2 := hc2 w1 hT
      go_simp; exact left_intro rfl (Stp.refl _) trivial
    refine ⟨?_, ?_⟩
    · rintro L a1 w1 hT - - ⟨h11, h14, -⟩   -- 12: Op.binOp BinOp.add 9 t11 t14 9
      have e11 : a1.tmps.getD 11 undef = _ := h11
      have f11 := getD_form e11
      have e14 : a1.tmps.getD 14 undef = _ := h14
      have f14 := getD_form e14
      clear h11 h14
      go_simp; exact left_intro rfl (Stp.refl _) trivial
    refine ⟨?_, ?_⟩
    · rintro L a1 w1 hT - - ⟨h1, -⟩   -- 13: Op.fieldAddr 65 t1 2
      have e1 : a1.tmps.getD 1 undef = _ := h1
      have f1 := getD_form e1
      clear h1
      go_simp; exact left_intro rfl (Stp.refl _) trivial
    refine ⟨?_, ?_⟩
    · rintro L a1 w1 hT - - ⟨h16, -⟩   -- 14: Op.load 3 t16
      have e16 : a1.tmps.getD 16 undef = _ := h16
      have f16 := getD_form e16
      clear h16
      have c3 := hc3 w1 hT
      go_simp; exact left_intro rfl (Stp.refl _) trivial
    refine ⟨?_, ?_⟩
    · rintro L a1 w1 hT - - ⟨h17, -⟩   -- 15: Op.call { value (Operand.func 114), args := #[t17], argTypes := #[3] }
      have e17 : a1.tmps.getD 17 undef = _ := h17
      have f17 := getD_form e17
      clear h17
      go_simp; go_at_call 114; (with_reducible refine (ET.out _).mono ?_); rintro e w2 ⟨rfl, hb⟩; exact left_intro rfl (Stp.of hb) trivial
    refine ⟨?_, ?_⟩
    · rintro L a1 w1 hT - - ⟨h15, h18, -⟩   -- 16: Op.binOp BinOp.add 9 t15 t18 9
      have e15 : a1.tmps.getD 15 undef = _ := h15
      have f15 := getD_form e15
      have e18 : a1.tmps.getD 18 undef = _ := h18
      have f18 := getD_form e18
      clear h15 h18
      go_simp; exact left_intro rfl (Stp.refl _) trivial
    refine ⟨?_, ?_⟩
    · rintro L a1 w1 hT - - ⟨h19, -⟩   -- 17: Op.assign t19
      have e19 : a1.tmps.getD 19 undef = _ := h19
      have f19 := getD_form e19
      clear h19
      go_simp; exact left_intro rfl (Stp.refl _) trivial
    trivial
  case hmono => repeat (first | exact trivial | refine ⟨fun _ _ _ _ h => h, ?_⟩)
  case hend =>
    intro w2 hT
    rintro _ rfl _ rfl _ rfl _ rfl _ rfl _ rfl _ rfl _ rfl _ rfl _ rfl _ rfl _ rfl _ rfl _ rfl _ rfl _ rfl _ rfl _ rfl
    simp only [relEnd, Act.put, List.setIfInBounds_toArray, List.set_cons_succ, List.set_cons_zero]
    go_wp2
    go_ret
    exact ⟨by rw [HR3.out]; rfl, hB.trans (Below.mono hT (by have := hlt; exact hB.size))⟩
end Go.Proofs.Ytgjmnhbkdccgpaa

/- The walk of label.Check. -/
import Derived.Test.YtgjmnhbkdccgpaaWLab
import Derived.Test.YtgjmnhbkdccgpaaRelL
namespace Go.Proofs.Ytgjmnhbkdccgpaa
open Go.RowKit

namespace L
def chk (p key id : List UInt8) (v : Int) (s : List UInt8) : Bool := decide (err key id v = 0) && (seed key id v == s) && (pub key == p)
end L
set_option maxRecDepth 100000 in
set_option maxHeartbeats 1000000 in
theorem lcheck_any (p key id : List UInt8) (v : Int) (s : List UInt8) (hp : p.length = 32) (hs : s.length = 32) (hid : id.length ≤ 60000) (hk : key.length ≤ 1000000000) (w : World) :
    Calls Try.prog 34 #[.agg (labA p), .string ⟨key.toArray⟩, .string ⟨id.toArray⟩, .int .i64 v, .agg (labA s)] w fun e w' => e = .returned (.bool (L.chk p key id v s)) ∧ Below w.heap.size w w' := by
  have SS := Lib.hid (fun W => seed_any key id v hid (by omega) W)
  have PP := Lib.hid (fun W => public_any key hk W)
  have hx := L.seed_length key id v
  have hq : (L.pub key).length = 32 := S.sum_length _
  have hc : L.chk p key id v s = (decide (L.err key id v = 0) && (L.seed key id v == s) && (L.pub key == p)) := rfl
  generalize L.chk p key id v s = R at *
  generalize L.seed key id v = x at *
  generalize L.pub key = q at *
  generalize L.err key id v = E at *
  generalize (⟨key.toArray⟩ : ByteArray) = K at *
  generalize (⟨id.toArray⟩ : ByteArray) = I at *
  have b0 : Blk (w.alloc (.cells (labA p) 25)) w.heap.size (labA p) 25 := Blk.new _ _ _
  have b1 : Blk ((w.alloc (.cells (labA p) 25)).alloc (.cells (labA s) 25)) (w.heap.size + 1) (labA s) 25 := blk_new1 _ _ _ _
  have hzx := size_lab x hx
  go_enter Try.func34, Try.ntmps34
  go_wp2_with (first | (refine wpList_fresh (by rfl) 25 (by rfl) _ fresh_lab ?_; simp only [Act.put, List.setIfInBounds_toArray, List.set_cons_succ, List.set_cons_zero]; try simp only [World.size_alloc]) | (go_at_call 30; with_reducible refine (SS.out _).mono ?_; rintro e w3 ⟨rfl, hb3⟩) | ((refine wpList_store_blk (by rfl) 25 (.tmp 11) (.tmp 18) (by rfl) (0) (labA x) (by rfl) (by rfl) ((Blk.new w3 (labA zlab) 25)) ((by rw [labA_size, labA_size, hx]; decide)) hzx (labA_all _) ?_; simp only [Act.put]); intro w9 b9 o9))
  rw [splice_all _ _ (by rw [labA_size, labA_size, hx]; decide)] at b9
  have B0 : Blk w9.drew w.heap.size (labA p) 25 := ((((b0.alloc _).at_ hb3).alloc _).only o9 (by have := hb3.size; simp at this; omega)).drew
  have B1 : Blk w9.drew (w.heap.size + 1) (labA s) 25 := (((b1.at_ hb3).alloc _).only o9 (by have := hb3.size; simp at this; omega)).drew
  have B2 : Blk w9.drew w3.heap.size (labA x) 25 := b9.drew
  have hB9 : Below w.heap.size w w9 := o9.below ((((below_alloc1 w _).alloc (by simp) _).trans (hb3.mono (by simp; omega))).alloc (by have := hb3.size; simp at this; omega) _) (by have := hb3.size; simp at this; omega)
  clear b0 b1 b9 o9 hb3 SS hzx
  generalize w3.heap.size = g3 at *
  by_cases h0 : E = 0
  · subst h0
    rw [decide_eq_true rfl, Bool.true_and] at hc
    by_cases h1 : (x == s) = true
    · rw [h1, Bool.true_and] at hc
      have hxs := Lib.hid h1
      subst hc
      apply wp_region_rel_below [[(12, none)], [(20, some 0)], [(21, some 1)], [(11, none), (22, some 2)], [(9, none), (22, some 2)], [(23, some 3), (24, some 4), (22, some 2)], [(22, some 2), (25, some 5)], [(26, some 6)], [(1, none), (27, some 7)], [(28, some 8), (27, some 7)], [(5, none), (27, some 7)], [(29, some 9), (30, some 10), (27, some 7)], [(27, some 7), (31, some 11)], [(32, some 12)]] [eqv _, eqv _, eqv _, eqv _, eqv _, eqv _, eqv _, eqv _, eqv _, eqv _, eqv _, eqv _, eqv _, eqv _] (by kernel_rfl) (by kernel_rfl)
      case hobs =>
        refine ⟨?_, ?_⟩
        · rintro L a1 w1 hT - - ⟨h12, -⟩   -- 0: Op.move t12
          have e12 : a1.tmps.getD 12 undef = _ := h12
          have f12 := getD_form e12
          clear h12
          go_simp; exact left_intro rfl (Stp.refl _) trivial
        refine ⟨?_, ?_⟩
        · rintro L a1 w1 hT - - ⟨h20, -⟩   -- 1: Op.binOp BinOp.eql 46 t20 (const (0:i64)) 46
          have e20 : a1.tmps.getD 20 undef = _ := h20
          have f20 := getD_form e20
          clear h20
          go_simp; exact left_intro rfl (Stp.refl _) trivial
        refine ⟨?_, ?_⟩
        · rintro L a1 w1 hT - - ⟨h21, -⟩   -- 2: Op.move t21
          have e21 : a1.tmps.getD 21 undef = _ := h21
          have f21 := getD_form e21
          clear h21
          go_simp; exact left_intro rfl (Stp.refl _) trivial
        refine ⟨?_, ?_⟩
        · rintro L a1 w1 hT - - ⟨h11, h22, -⟩   -- 3: Op.load 25 t11
          have e11 : a1.tmps.getD 11 undef = _ := h11
          have f11 := getD_form e11
          have e22 : a1.tmps.getD 22 undef = _ := h22
          have f22 := getD_form e22
          clear h11 h22
          refine ⟨true, 22, by rfl, e22, ?_⟩; rw [if_pos rfl]
          exact wp_load_lab (.tmp 11) rfl e11 (B2.at_ hT) hx (left_intro rfl (Stp.refl _) trivial)
        refine ⟨?_, ?_⟩
        · rintro L a1 w1 hT - - ⟨h9, h22, -⟩   -- 4: Op.load 25 t9
          have e9 : a1.tmps.getD 9 undef = _ := h9
          have f9 := getD_form e9
          have e22 : a1.tmps.getD 22 undef = _ := h22
          have f22 := getD_form e22
          clear h9 h22
          refine ⟨true, 22, by rfl, e22, ?_⟩; rw [if_pos rfl]
          exact wp_load_lab (.tmp 9) rfl e9 (B1.at_ hT) hs (left_intro rfl (Stp.refl _) trivial)
        refine ⟨?_, ?_⟩
        · rintro L a1 w1 hT - - ⟨h23, h24, h22, -⟩   -- 5: Op.binOp BinOp.eql 25 t23 t24 25
          have e23 : a1.tmps.getD 23 undef = _ := h23
          have f23 := getD_form e23
          have e24 : a1.tmps.getD 24 undef = _ := h24
          have f24 := getD_form e24
          have e22 : a1.tmps.getD 22 undef = _ := h22
          have f22 := getD_form e22
          clear h23 h24 h22
          refine ⟨true, 22, by rfl, e22, ?_⟩; rw [if_pos rfl]
          exact wp_bin .eql 25 25 (.tmp 23) (.tmp 24) rfl _ _ e23 e24 guard_lab _ ((eql_lab _ _ hx hs _).trans (by rw [h1])) (left_intro rfl (Stp.refl _) trivial)
        refine ⟨?_, ?_⟩
        · rintro L a1 w1 hT - - ⟨h22, h25, -⟩   -- 6: Op.pick t22 t25 (const (Value.bool false))
          have e22 : a1.tmps.getD 22 undef = _ := h22
          have f22 := getD_form e22
          have e25 : a1.tmps.getD 25 undef = _ := h25
          have f25 := getD_form e25
          clear h22 h25
          go_simp; exact left_intro rfl (Stp.refl _) trivial
        refine ⟨?_, ?_⟩
        · rintro L a1 w1 hT - - ⟨h26, -⟩   -- 7: Op.move t26
          have e26 : a1.tmps.getD 26 undef = _ := h26
          have f26 := getD_form e26
          clear h26
          go_simp; exact left_intro rfl (Stp.refl _) trivial
        refine ⟨?_, ?_⟩
        · rintro L a1 w1 hT - - ⟨h1, h27, -⟩   -- 8: Op.move t1
          have e1 : a1.tmps.getD 1 undef = _ := h1
          have f1 := getD_form e1
          have e27 : a1.tmps.getD 27 undef = _ := h27
          have f27 := getD_form e27
          clear h1 h27
          refine ⟨true, 27, by rfl, e27, ?_⟩; rw [if_pos rfl]
          go_simp; exact left_intro rfl (Stp.refl _) trivial
        refine ⟨?_, ?_⟩
        · rintro L a1 w1 hT - - ⟨h28, h27, -⟩   -- 9: Op.call { value (Operand.func 37), args := #[t28], argTypes := #[9] }
          have e28 : a1.tmps.getD 28 undef = _ := h28
          have f28 := getD_form e28
          have e27 : a1.tmps.getD 27 undef = _ := h27
          have f27 := getD_form e27
          clear h28 h27
          refine ⟨true, 27, by rfl, e27, ?_⟩; rw [if_pos rfl]
          go_simp; go_at_call 37; (with_reducible refine (PP.out _).mono ?_); rintro e w2 ⟨rfl, hb⟩; exact left_intro rfl (Stp.of hb) trivial
        refine ⟨?_, ?_⟩
        · rintro L a1 w1 hT - - ⟨h5, h27, -⟩   -- 10: Op.load 25 t5
          have e5 : a1.tmps.getD 5 undef = _ := h5
          have f5 := getD_form e5
          have e27 : a1.tmps.getD 27 undef = _ := h27
          have f27 := getD_form e27
          clear h5 h27
          refine ⟨true, 27, by rfl, e27, ?_⟩; rw [if_pos rfl]
          exact wp_load_lab (.tmp 5) rfl e5 (B0.at_ hT) hp (left_intro rfl (Stp.refl _) trivial)
        refine ⟨?_, ?_⟩
        · rintro L a1 w1 hT - - ⟨h29, h30, h27, -⟩   -- 11: Op.binOp BinOp.eql 25 t29 t30 25
          have e29 : a1.tmps.getD 29 undef = _ := h29
          have f29 := getD_form e29
          have e30 : a1.tmps.getD 30 undef = _ := h30
          have f30 := getD_form e30
          have e27 : a1.tmps.getD 27 undef = _ := h27
          have f27 := getD_form e27
          clear h29 h30 h27
          refine ⟨true, 27, by rfl, e27, ?_⟩; rw [if_pos rfl]
          exact wp_bin .eql 25 25 (.tmp 29) (.tmp 30) rfl _ _ e29 e30 guard_lab _ (eql_lab _ _ (by assumption) (by assumption) _) (left_intro rfl (Stp.refl _) trivial)
        refine ⟨?_, ?_⟩
        · rintro L a1 w1 hT - - ⟨h27, h31, -⟩   -- 12: Op.pick t27 t31 (const (Value.bool false))
          have e27 : a1.tmps.getD 27 undef = _ := h27
          have f27 := getD_form e27
          have e31 : a1.tmps.getD 31 undef = _ := h31
          have f31 := getD_form e31
          clear h27 h31
          go_simp; exact left_intro rfl (Stp.refl _) trivial
        refine ⟨?_, ?_⟩
        · rintro L a1 w1 hT - - ⟨h32, -⟩   -- 13: Op.assign t32
          have e32 : a1.tmps.getD 32 undef = _ := h32
          have f32 := getD_form e32
          clear h32
          go_simp; exact left_intro rfl (Stp.refl _) trivial
        trivial
      case hmono => repeat (first | exact trivial | refine ⟨fun _ _ _ _ h => h, ?_⟩)
      case hend =>
        intro w2 hT
        rintro _ rfl _ rfl _ rfl _ rfl _ rfl _ rfl _ rfl _ rfl _ rfl _ rfl _ rfl _ rfl _ rfl _ rfl
        simp only [relEnd, Act.put, List.setIfInBounds_toArray, List.set_cons_succ, List.set_cons_zero]
        go_wp2
        go_ret
        exact ⟨rfl, hB9.trans (hT.mono hB9.size)⟩
    · have h1 : (x == s) = false := by simpa using h1
      rw [h1, Bool.false_and] at hc
      subst hc
      apply wp_region_rel_below [[(12, none)], [(20, some 0)], [(21, some 1)], [(11, none), (22, some 2)], [(9, none), (22, some 2)], [(23, some 3), (24, some 4), (22, some 2)], [(22, some 2), (25, some 5)], [(26, some 6)], [(1, none), (27, some 7)], [(28, some 8), (27, some 7)], [(5, none), (27, some 7)], [(29, some 9), (30, some 10), (27, some 7)], [(27, some 7), (31, some 11)], [(32, some 12)]] [eqv _, eqv _, eqv _, eqv _, eqv _, eqv _, eqv _, eqv _, eqv _, eqv _, eqv _, eqv _, eqv _, eqv _] (by kernel_rfl) (by kernel_rfl)
      case hobs =>
        refine ⟨?_, ?_⟩
        · rintro L a1 w1 hT - - ⟨h12, -⟩   -- 0: Op.move t12
          have e12 : a1.tmps.getD 12 undef = _ := h12
          have f12 := getD_form e12
          clear h12
          go_simp; exact left_intro rfl (Stp.refl _) trivial
        refine ⟨?_, ?_⟩
        · rintro L a1 w1 hT - - ⟨h20, -⟩   -- 1: Op.binOp BinOp.eql 46 t20 (const (0:i64)) 46
          have e20 : a1.tmps.getD 20 undef = _ := h20
          have f20 := getD_form e20
          clear h20
          go_simp; exact left_intro rfl (Stp.refl _) trivial
        refine ⟨?_, ?_⟩
        · rintro L a1 w1 hT - - ⟨h21, -⟩   -- 2: Op.move t21
          have e21 : a1.tmps.getD 21 undef = _ := h21
          have f21 := getD_form e21
          clear h21
          go_simp; exact left_intro rfl (Stp.refl _) trivial
        refine ⟨?_, ?_⟩
        · rintro L a1 w1 hT - - ⟨h11, h22, -⟩   -- 3: Op.load 25 t11
          have e11 : a1.tmps.getD 11 undef = _ := h11
          have f11 := getD_form e11
          have e22 : a1.tmps.getD 22 undef = _ := h22
          have f22 := getD_form e22
          clear h11 h22
          refine ⟨true, 22, by rfl, e22, ?_⟩; rw [if_pos rfl]
          exact wp_load_lab (.tmp 11) rfl e11 (B2.at_ hT) hx (left_intro rfl (Stp.refl _) trivial)
        refine ⟨?_, ?_⟩
        · rintro L a1 w1 hT - - ⟨h9, h22, -⟩   -- 4: Op.load 25 t9
          have e9 : a1.tmps.getD 9 undef = _ := h9
          have f9 := getD_form e9
          have e22 : a1.tmps.getD 22 undef = _ := h22
          have f22 := getD_form e22
          clear h9 h22
          refine ⟨true, 22, by rfl, e22, ?_⟩; rw [if_pos rfl]
          exact wp_load_lab (.tmp 9) rfl e9 (B1.at_ hT) hs (left_intro rfl (Stp.refl _) trivial)
        refine ⟨?_, ?_⟩
        · rintro L a1 w1 hT - - ⟨h23, h24, h22, -⟩   -- 5: Op.binOp BinOp.eql 25 t23 t24 25
          have e23 : a1.tmps.getD 23 undef = _ := h23
          have f23 := getD_form e23
          have e24 : a1.tmps.getD 24 undef = _ := h24
          have f24 := getD_form e24
          have e22 : a1.tmps.getD 22 undef = _ := h22
          have f22 := getD_form e22
          clear h23 h24 h22
          refine ⟨true, 22, by rfl, e22, ?_⟩; rw [if_pos rfl]
          exact wp_bin .eql 25 25 (.tmp 23) (.tmp 24) rfl _ _ e23 e24 guard_lab _ ((eql_lab _ _ hx hs _).trans (by rw [h1])) (left_intro rfl (Stp.refl _) trivial)
        refine ⟨?_, ?_⟩
        · rintro L a1 w1 hT - - ⟨h22, h25, -⟩   -- 6: Op.pick t22 t25 (const (Value.bool false))
          have e22 : a1.tmps.getD 22 undef = _ := h22
          have f22 := getD_form e22
          have e25 : a1.tmps.getD 25 undef = _ := h25
          have f25 := getD_form e25
          clear h22 h25
          go_simp; exact left_intro rfl (Stp.refl _) trivial
        refine ⟨?_, ?_⟩
        · rintro L a1 w1 hT - - ⟨h26, -⟩   -- 7: Op.move t26
          have e26 : a1.tmps.getD 26 undef = _ := h26
          have f26 := getD_form e26
          clear h26
          go_simp; exact left_intro rfl (Stp.refl _) trivial
        refine ⟨?_, ?_⟩
        · rintro L a1 w1 hT - - ⟨h1, h27, -⟩   -- 8: Op.move t1
          have e1 : a1.tmps.getD 1 undef = _ := h1
          have f1 := getD_form e1
          have e27 : a1.tmps.getD 27 undef = _ := h27
          have f27 := getD_form e27
          clear h1 h27
          refine ⟨false, 27, by rfl, e27, ?_⟩; rw [if_neg (by decide)]
          exact left_intro rfl (Stp.refl _) trivial
        refine ⟨?_, ?_⟩
        · rintro L a1 w1 hT - - ⟨h28, h27, -⟩   -- 9: Op.call { value (Operand.func 37), args := #[t28], argTypes := #[9] }
          have e28 : a1.tmps.getD 28 undef = _ := h28
          have f28 := getD_form e28
          have e27 : a1.tmps.getD 27 undef = _ := h27
          have f27 := getD_form e27
          clear h28 h27
          refine ⟨false, 27, by rfl, e27, ?_⟩; rw [if_neg (by decide)]
          exact left_intro rfl (Stp.refl _) trivial
        refine ⟨?_, ?_⟩
        · rintro L a1 w1 hT - - ⟨h5, h27, -⟩   -- 10: Op.load 25 t5
          have e5 : a1.tmps.getD 5 undef = _ := h5
          have f5 := getD_form e5
          have e27 : a1.tmps.getD 27 undef = _ := h27
          have f27 := getD_form e27
          clear h5 h27
          refine ⟨false, 27, by rfl, e27, ?_⟩; rw [if_neg (by decide)]
          exact left_intro rfl (Stp.refl _) trivial
        refine ⟨?_, ?_⟩
        · rintro L a1 w1 hT - - ⟨h29, h30, h27, -⟩   -- 11: Op.binOp BinOp.eql 25 t29 t30 25
          have e29 : a1.tmps.getD 29 undef = _ := h29
          have f29 := getD_form e29
          have e30 : a1.tmps.getD 30 undef = _ := h30
          have f30 := getD_form e30
          have e27 : a1.tmps.getD 27 undef = _ := h27
          have f27 := getD_form e27
          clear h29 h30 h27
          refine ⟨false, 27, by rfl, e27, ?_⟩; rw [if_neg (by decide)]
          exact left_intro rfl (Stp.refl _) trivial
        refine ⟨?_, ?_⟩
        · rintro L a1 w1 hT - - ⟨h27, h31, -⟩   -- 12: Op.pick t27 t31 (const (Value.bool false))
          have e27 : a1.tmps.getD 27 undef = _ := h27
          have f27 := getD_form e27
          have e31 : a1.tmps.getD 31 undef = _ := h31
          have f31 := getD_form e31
          clear h27 h31
          go_simp; exact left_intro rfl (Stp.refl _) trivial
        refine ⟨?_, ?_⟩
        · rintro L a1 w1 hT - - ⟨h32, -⟩   -- 13: Op.assign t32
          have e32 : a1.tmps.getD 32 undef = _ := h32
          have f32 := getD_form e32
          clear h32
          go_simp; exact left_intro rfl (Stp.refl _) trivial
        trivial
      case hmono => repeat (first | exact trivial | refine ⟨fun _ _ _ _ h => h, ?_⟩)
      case hend =>
        intro w2 hT
        rintro _ rfl _ rfl _ rfl _ rfl _ rfl _ rfl _ rfl _ rfl _ rfl _ rfl _ rfl _ rfl _ rfl _ rfl
        simp only [relEnd, Act.put, List.setIfInBounds_toArray, List.set_cons_succ, List.set_cons_zero]
        go_wp2
        go_ret
        exact ⟨rfl, hB9.trans (hT.mono hB9.size)⟩
  · rw [decide_eq_false h0, Bool.false_and, Bool.false_and] at hc
    subst hc
    have d0 : ((E : Int) == 0) = false := by rw [beq_eq_false_iff_ne]; omega
    apply wp_region_rel_below [[(12, none)], [(20, some 0)], [(21, some 1)], [(11, none), (22, some 2)], [(9, none), (22, some 2)], [(23, some 3), (24, some 4), (22, some 2)], [(22, some 2), (25, some 5)], [(26, some 6)], [(1, none), (27, some 7)], [(28, some 8), (27, some 7)], [(5, none), (27, some 7)], [(29, some 9), (30, some 10), (27, some 7)], [(27, some 7), (31, some 11)], [(32, some 12)]] [eqv _, eqv _, eqv _, eqv _, eqv _, eqv _, eqv _, eqv _, eqv _, eqv _, eqv _, eqv _, eqv _, eqv _] (by kernel_rfl) (by kernel_rfl)
    case hobs =>
      refine ⟨?_, ?_⟩
      · rintro L a1 w1 hT - - ⟨h12, -⟩   -- 0: Op.move t12
        have e12 : a1.tmps.getD 12 undef = _ := h12
        have f12 := getD_form e12
        clear h12
        go_simp; exact left_intro rfl (Stp.refl _) trivial
      refine ⟨?_, ?_⟩
      · rintro L a1 w1 hT - - ⟨h20, -⟩   -- 1: Op.binOp BinOp.eql 46 t20 (const (0:i64)) 46
        have e20 : a1.tmps.getD 20 undef = _ := h20
        have f20 := getD_form e20
        clear h20
        go_simp; exact left_intro rfl (Stp.refl _) trivial
      refine ⟨?_, ?_⟩
      · rintro L a1 w1 hT - - ⟨h21, -⟩   -- 2: Op.move t21
        have e21 : a1.tmps.getD 21 undef = _ := h21
        have f21 := getD_form e21
        clear h21
        go_simp; exact left_intro rfl (Stp.refl _) trivial
      refine ⟨?_, ?_⟩
      · rintro L a1 w1 hT - - ⟨h11, h22, -⟩   -- 3: Op.load 25 t11
        have e11 : a1.tmps.getD 11 undef = _ := h11
        have f11 := getD_form e11
        have e22 : a1.tmps.getD 22 undef = _ := h22
        have f22 := getD_form e22
        clear h11 h22
        refine ⟨false, 22, by rfl, e22, ?_⟩; rw [if_neg (by decide)]
        exact left_intro rfl (Stp.refl _) trivial
      refine ⟨?_, ?_⟩
      · rintro L a1 w1 hT - - ⟨h9, h22, -⟩   -- 4: Op.load 25 t9
        have e9 : a1.tmps.getD 9 undef = _ := h9
        have f9 := getD_form e9
        have e22 : a1.tmps.getD 22 undef = _ := h22
        have f22 := getD_form e22
        clear h9 h22
        refine ⟨false, 22, by rfl, e22, ?_⟩; rw [if_neg (by decide)]
        exact left_intro rfl (Stp.refl _) trivial
      refine ⟨?_, ?_⟩
      · rintro L a1 w1 hT - - ⟨h23, h24, h22, -⟩   -- 5: Op.binOp BinOp.eql 25 t23 t24 25
        have e23 : a1.tmps.getD 23 undef = _ := h23
        have f23 := getD_form e23
        have e24 : a1.tmps.getD 24 undef = _ := h24
        have f24 := getD_form e24
        have e22 : a1.tmps.getD 22 undef = _ := h22
        have f22 := getD_form e22
        clear h23 h24 h22
        refine ⟨false, 22, by rfl, e22, ?_⟩; rw [if_neg (by decide)]
        exact left_intro rfl (Stp.refl _) trivial
      refine ⟨?_, ?_⟩
      · rintro L a1 w1 hT - - ⟨h22, h25, -⟩   -- 6: Op.pick t22 t25 (const (Value.bool false))
        have e22 : a1.tmps.getD 22 undef = _ := h22
        have f22 := getD_form e22
        have e25 : a1.tmps.getD 25 undef = _ := h25
        have f25 := getD_form e25
        clear h22 h25
        go_simp; exact left_intro rfl (Stp.refl _) trivial
      refine ⟨?_, ?_⟩
      · rintro L a1 w1 hT - - ⟨h26, -⟩   -- 7: Op.move t26
        have e26 : a1.tmps.getD 26 undef = _ := h26
        have f26 := getD_form e26
        clear h26
        go_simp; exact left_intro rfl (Stp.refl _) trivial
      refine ⟨?_, ?_⟩
      · rintro L a1 w1 hT - - ⟨h1, h27, -⟩   -- 8: Op.move t1
        have e1 : a1.tmps.getD 1 undef = _ := h1
        have f1 := getD_form e1
        have e27 : a1.tmps.getD 27 undef = _ := h27
        have f27 := getD_form e27
        clear h1 h27
        refine ⟨false, 27, by rfl, e27, ?_⟩; rw [if_neg (by decide)]
        exact left_intro rfl (Stp.refl _) trivial
      refine ⟨?_, ?_⟩
      · rintro L a1 w1 hT - - ⟨h28, h27, -⟩   -- 9: Op.call { value (Operand.func 37), args := #[t28], argTypes := #[9] }
        have e28 : a1.tmps.getD 28 undef = _ := h28
        have f28 := getD_form e28
        have e27 : a1.tmps.getD 27 undef = _ := h27
        have f27 := getD_form e27
        clear h28 h27
        refine ⟨false, 27, by rfl, e27, ?_⟩; rw [if_neg (by decide)]
        exact left_intro rfl (Stp.refl _) trivial
      refine ⟨?_, ?_⟩
      · rintro L a1 w1 hT - - ⟨h5, h27, -⟩   -- 10: Op.load 25 t5
        have e5 : a1.tmps.getD 5 undef = _ := h5
        have f5 := getD_form e5
        have e27 : a1.tmps.getD 27 undef = _ := h27
        have f27 := getD_form e27
        clear h5 h27
        refine ⟨false, 27, by rfl, e27, ?_⟩; rw [if_neg (by decide)]
        exact left_intro rfl (Stp.refl _) trivial
      refine ⟨?_, ?_⟩
      · rintro L a1 w1 hT - - ⟨h29, h30, h27, -⟩   -- 11: Op.binOp BinOp.eql 25 t29 t30 25
        have e29 : a1.tmps.getD 29 undef = _ := h29
        have f29 := getD_form e29
        have e30 : a1.tmps.getD 30 undef = _ := h30
        have f30 := getD_form e30
        have e27 : a1.tmps.getD 27 undef = _ := h27
        have f27 := getD_form e27
        clear h29 h30 h27
        refine ⟨false, 27, by rfl, e27, ?_⟩; rw [if_neg (by decide)]
        exact left_intro rfl (Stp.refl _) trivial
      refine ⟨?_, ?_⟩
      · rintro L a1 w1 hT - - ⟨h27, h31, -⟩   -- 12: Op.pick t27 t31 (const (Value.bool false))
        have e27 : a1.tmps.getD 27 undef = _ := h27
        have f27 := getD_form e27
        have e31 : a1.tmps.getD 31 undef = _ := h31
        have f31 := getD_form e31
        clear h27 h31
        go_simp; exact left_intro rfl (Stp.refl _) trivial
      refine ⟨?_, ?_⟩
      · rintro L a1 w1 hT - - ⟨h32, -⟩   -- 13: Op.assign t32
        have e32 : a1.tmps.getD 32 undef = _ := h32
        have f32 := getD_form e32
        clear h32
        go_simp; exact left_intro rfl (Stp.refl _) trivial
      trivial
    case hmono => repeat (first | exact trivial | refine ⟨fun _ _ _ _ h => h, ?_⟩)
    case hend =>
      intro w2 hT
      rintro _ rfl _ rfl _ rfl _ rfl _ rfl _ rfl _ rfl _ rfl _ rfl _ rfl _ rfl _ rfl _ rfl _ rfl
      simp only [relEnd, Act.put, List.setIfInBounds_toArray, List.set_cons_succ, List.set_cons_zero]
      go_wp2
      go_ret
      exact ⟨rfl, hB9.trans (hT.mono hB9.size)⟩
end Go.Proofs.Ytgjmnhbkdccgpaa

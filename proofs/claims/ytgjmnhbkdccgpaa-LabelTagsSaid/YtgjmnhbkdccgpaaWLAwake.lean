/- The walk of the seeds' awake. -/
import Derived.Test.YtgjmnhbkdccgpaaWLCheck
namespace Go.Proofs.Ytgjmnhbkdccgpaa
open Go.RowKit

namespace L
theorem blen3 : D.blen 3 = 1 := by rw [D.blen_pos (by decide), show 3 / 256 = 0 from rfl, D.blen_zero]
theorem text_ann : text [97, 110, 110] 3 = [1, 3, 97, 110, 110, 1, 3] := by
  unfold text D.textB D.numB D.be
  rw [show ([97, 110, 110] : List UInt8).length = 3 from rfl, show (3 : Int).toNat = 3 from rfl, blen3]
  rfl
theorem err_ann : err [107] [97, 110, 110] 3 = 0 := by decide +kernel
theorem seed_ann : seed [107] [97, 110, 110] 3 = S.mac [107] [1, 3, 97, 110, 110, 1, 3] := by
  unfold seed
  rw [err_ann, if_pos rfl, text_ann]
theorem chk_ann : chk (pub [107]) [107] [97, 110, 110] 3 (seed [107] [97, 110, 110] 3) = true := by
  unfold chk
  rw [err_ann, decide_eq_true rfl, beq_self_eq_true, beq_self_eq_true]
  rfl
end L
set_option maxRecDepth 100000 in
set_option maxHeartbeats 1000000 in
theorem lawake_any (w : World) : Calls Try.prog 32 #[] w fun e w' => e = .returned (.bool true) ∧ Below w.heap.size w w' := by
  have SS := Lib.hid (fun W => seed_any [107] [97, 110, 110] 3 (by decide) (by decide) W)
  have PP := Lib.hid (fun W => public_any [107] (by decide) W)
  have MM := Lib.hid (fun W => mac_any [107] [1, 3, 97, 110, 110, 1, 3] W (by decide) (by decide))
  have CC := Lib.hid (fun W => lcheck_any (L.pub [107]) [107] [97, 110, 110] 3 (L.seed [107] [97, 110, 110] 3) (S.sum_length _) (L.seed_length _ _ _) (by decide) (by decide) W)
  rw [L.chk_ann] at CC
  rw [L.err_ann] at SS
  rw [L.seed_ann] at SS CC
  rw [show ((0 : Nat) : Int) = 0 from rfl] at SS
  have hx := S.mac_length [107] [1, 3, 97, 110, 110, 1, 3]
  generalize S.mac [107] [1, 3, 97, 110, 110, 1, 3] = x at *
  generalize L.pub [107] = q at *
  have hzx := size_lab x hx
  have hxx : (x == x) = true := beq_self_eq_true x
  go_enter Try.func32, Try.ntmps32
  go_wp2_with (first | (refine wpList_fresh (by rfl) 25 (by rfl) _ fresh_lab ?_; simp only [Act.put, List.setIfInBounds_toArray, List.set_cons_succ, List.set_cons_zero]; try simp only [World.size_alloc]) | (go_at_call 30; with_reducible refine (SS.out _).mono ?_; rintro e w3 ⟨rfl, hb3⟩) | ((refine wpList_store_blk (by rfl) 25 (.tmp 1) (.tmp 5) (by rfl) (0) (labA x) (by rfl) (by rfl) ((Blk.new w3 (labA zlab) 25)) ((by rw [labA_size, labA_size, hx]; decide)) hzx (labA_all _) ?_; simp only [Act.put]); intro w9 b9 o9))
  rw [splice_all _ _ (by rw [labA_size, labA_size, hx]; decide)] at b9
  have B2 : Blk w9.drew w3.heap.size (labA x) 25 := b9.drew
  have hB9 : Below w.heap.size w w9 := o9.below (hb3.alloc hb3.size _) hb3.size
  clear b9 o9 hb3 SS hzx
  generalize w3.heap.size = g3 at *
  apply wp_region_rel_below [[(2, none)], [(7, some 0)], [(8, some 1)], [(1, none), (9, some 2)], [(9, some 2)], [(10, some 3), (11, some 4), (9, some 2)], [(9, some 2), (12, some 5)], [(13, some 6)], [(14, some 7)], [(1, none), (14, some 7)], [(15, some 8), (16, some 9), (14, some 7)], [(14, some 7), (17, some 10)], [(18, some 11)]] [eqv _, eqv _, eqv _, eqv _, eqv _, eqv _, eqv _, eqv _, eqv _, eqv _, eqv _, eqv _, eqv _] (by kernel_rfl) (by kernel_rfl)
  case hobs =>
    refine ⟨?_, ?_⟩
    · rintro L a1 w1 hT - - ⟨h2, -⟩   -- 0: Op.move t2
      have e2 : a1.tmps.getD 2 undef = _ := h2
      have f2 := getD_form e2
      clear h2
      go_simp; exact left_intro rfl (Stp.refl _) trivial
    refine ⟨?_, ?_⟩
    · rintro L a1 w1 hT - - ⟨h7, -⟩   -- 1: Op.binOp BinOp.eql 46 t7 (const (0:i64)) 46
      have e7 : a1.tmps.getD 7 undef = _ := h7
      have f7 := getD_form e7
      clear h7
      go_simp; exact left_intro rfl (Stp.refl _) trivial
    refine ⟨?_, ?_⟩
    · rintro L a1 w1 hT - - ⟨h8, -⟩   -- 2: Op.move t8
      have e8 : a1.tmps.getD 8 undef = _ := h8
      have f8 := getD_form e8
      clear h8
      go_simp; exact left_intro rfl (Stp.refl _) trivial
    refine ⟨?_, ?_⟩
    · rintro L a1 w1 hT - - ⟨h1, h9, -⟩   -- 3: Op.load 25 t1
      have e1 : a1.tmps.getD 1 undef = _ := h1
      have f1 := getD_form e1
      have e9 : a1.tmps.getD 9 undef = _ := h9
      have f9 := getD_form e9
      clear h1 h9
      refine ⟨true, 9, by rfl, e9, ?_⟩; rw [if_pos rfl]
      exact wp_load_lab (.tmp 1) rfl e1 (B2.at_ hT) hx (left_intro rfl (Stp.refl _) trivial)
    refine ⟨?_, ?_⟩
    · rintro L a1 w1 hT - - ⟨h9, -⟩   -- 4: Op.call { value (Operand.func 28), args := #[const (Value.string { data := #[107] }), cons
      have e9 : a1.tmps.getD 9 undef = _ := h9
      have f9 := getD_form e9
      clear h9
      refine ⟨true, 9, by rfl, e9, ?_⟩; rw [if_pos rfl]
      go_simp; go_at_call 28; (with_reducible refine (MM.out _).mono ?_); rintro e w2 ⟨rfl, hb⟩; exact left_intro rfl (Stp.of hb) trivial
    refine ⟨?_, ?_⟩
    · rintro L a1 w1 hT - - ⟨h10, h11, h9, -⟩   -- 5: Op.binOp BinOp.eql 25 t10 t11 25
      have e10 : a1.tmps.getD 10 undef = _ := h10
      have f10 := getD_form e10
      have e11 : a1.tmps.getD 11 undef = _ := h11
      have f11 := getD_form e11
      have e9 : a1.tmps.getD 9 undef = _ := h9
      have f9 := getD_form e9
      clear h10 h11 h9
      refine ⟨true, 9, by rfl, e9, ?_⟩; rw [if_pos rfl]
      exact wp_bin .eql 25 25 (.tmp 10) (.tmp 11) rfl _ _ e10 e11 guard_lab _ ((eql_lab _ _ hx hx _).trans (by rw [hxx])) (left_intro rfl (Stp.refl _) trivial)
    refine ⟨?_, ?_⟩
    · rintro L a1 w1 hT - - ⟨h9, h12, -⟩   -- 6: Op.pick t9 t12 (const (Value.bool false))
      have e9 : a1.tmps.getD 9 undef = _ := h9
      have f9 := getD_form e9
      have e12 : a1.tmps.getD 12 undef = _ := h12
      have f12 := getD_form e12
      clear h9 h12
      go_simp; exact left_intro rfl (Stp.refl _) trivial
    refine ⟨?_, ?_⟩
    · rintro L a1 w1 hT - - ⟨h13, -⟩   -- 7: Op.move t13
      have e13 : a1.tmps.getD 13 undef = _ := h13
      have f13 := getD_form e13
      clear h13
      go_simp; exact left_intro rfl (Stp.refl _) trivial
    refine ⟨?_, ?_⟩
    · rintro L a1 w1 hT - - ⟨h14, -⟩   -- 8: Op.call { value (Operand.func 37), args := #[const (Value.string { data := #[107] })], arg
      have e14 : a1.tmps.getD 14 undef = _ := h14
      have f14 := getD_form e14
      clear h14
      refine ⟨true, 14, by rfl, e14, ?_⟩; rw [if_pos rfl]
      go_simp; go_at_call 37; (with_reducible refine (PP.out _).mono ?_); rintro e w2 ⟨rfl, hb⟩; exact left_intro rfl (Stp.of hb) trivial
    refine ⟨?_, ?_⟩
    · rintro L a1 w1 hT - - ⟨h1, h14, -⟩   -- 9: Op.load 25 t1
      have e1 : a1.tmps.getD 1 undef = _ := h1
      have f1 := getD_form e1
      have e14 : a1.tmps.getD 14 undef = _ := h14
      have f14 := getD_form e14
      clear h1 h14
      refine ⟨true, 14, by rfl, e14, ?_⟩; rw [if_pos rfl]
      exact wp_load_lab (.tmp 1) rfl e1 (B2.at_ hT) hx (left_intro rfl (Stp.refl _) trivial)
    refine ⟨?_, ?_⟩
    · rintro L a1 w1 hT - - ⟨h15, h16, h14, -⟩   -- 10: Op.call { value (Operand.func 34), args := #[t15, const (Value.string { data := #[107] }),
      have e15 : a1.tmps.getD 15 undef = _ := h15
      have f15 := getD_form e15
      have e16 : a1.tmps.getD 16 undef = _ := h16
      have f16 := getD_form e16
      have e14 : a1.tmps.getD 14 undef = _ := h14
      have f14 := getD_form e14
      clear h15 h16 h14
      refine ⟨true, 14, by rfl, e14, ?_⟩; rw [if_pos rfl]
      go_simp; go_at_call 34; (with_reducible refine (CC.out _).mono ?_); rintro e w2 ⟨rfl, hb⟩; exact left_intro rfl (Stp.of hb) trivial
    refine ⟨?_, ?_⟩
    · rintro L a1 w1 hT - - ⟨h14, h17, -⟩   -- 11: Op.pick t14 t17 (const (Value.bool false))
      have e14 : a1.tmps.getD 14 undef = _ := h14
      have f14 := getD_form e14
      have e17 : a1.tmps.getD 17 undef = _ := h17
      have f17 := getD_form e17
      clear h14 h17
      go_simp; exact left_intro rfl (Stp.refl _) trivial
    refine ⟨?_, ?_⟩
    · rintro L a1 w1 hT - - ⟨h18, -⟩   -- 12: Op.assign t18
      have e18 : a1.tmps.getD 18 undef = _ := h18
      have f18 := getD_form e18
      clear h18
      go_simp; exact left_intro rfl (Stp.refl _) trivial
    trivial
  case hmono => repeat (first | exact trivial | refine ⟨fun _ _ _ _ h => h, ?_⟩)
  case hend =>
    intro w2 hT
    rintro _ rfl _ rfl _ rfl _ rfl _ rfl _ rfl _ rfl _ rfl _ rfl _ rfl _ rfl _ rfl _ rfl
    simp only [relEnd, Act.put, List.setIfInBounds_toArray, List.set_cons_succ, List.set_cons_zero]
    go_wp2
    go_ret
    exact ⟨rfl, hB9.trans (hT.mono hB9.size)⟩
end Go.Proofs.Ytgjmnhbkdccgpaa

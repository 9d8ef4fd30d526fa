/- The walks of cmp.Or and of level.order. -/
import Derived.Test.YtnfabofkfnmplaaLvA
namespace Go.Proofs.Ytnfabofkfnmplaa
open Go.RowKit

set_option maxRecDepth 100000 in
set_option maxHeartbeats 1000000 in
theorem or_two (x y : Int) (g : Nat) (w : World) (hb : Blk w g #[.int .i64 x, .int .i64 y] 3) :
    Calls Try.prog 30 #[.slice (some ⟨g, 0, none⟩) 2 2] w fun e w' => e = .returned (.int .i64 (if x ≠ 0 then x else y)) ∧ w = w' := by
  have c0 := hb.cellv (i := 0) rfl
  have c1 := hb.cellv (i := 1) rfl
  clear hb
  obtain ⟨r, hr0⟩ : ∃ r, r = (if x ≠ 0 then x else y) := ⟨_, rfl⟩
  rw [← hr0]
  replace hr0 := Lib.hid hr0
  go_enter Try.func30, Try.ntmps30
  go_wp2
  go_loop [8] (fun i => i = .int .i64 0 ∨ (i = .int .i64 1 ∧ x = 0) ∨ (i = .int .i64 2 ∧ x = 0 ∧ y = 0)) (fun i => 2 - (intOf i).toNat)
  case atStart => exact .inl rfl
  case round =>
    rcases hrel with rfl | ⟨rfl, hx⟩ | ⟨rfl, hx, hy⟩
    · by_cases h : x = 0
      · have d : (x != 0) = false := by rw [h]; rfl
        go_wp2
        exact ⟨.inr (.inl ⟨rfl, h⟩), by simp [intOf]⟩
      · have d : (x != 0) = true := by simpa using h
        have hr := Lib.hid (show r = x from hr0.out.trans (if_pos h))
        clear h
        go_wp2
        go_ret
        exact ⟨by (rw [hr.out]; try rfl), rfl⟩
    · by_cases h : y = 0
      · have d : (y != 0) = false := by rw [h]; rfl
        have Hx := Lib.hid hx
        clear hx
        go_wp2
        exact ⟨.inr (.inr ⟨rfl, Hx.out, h⟩), by simp [intOf]⟩
      · have d : (y != 0) = true := by simpa using h
        have hr := Lib.hid (show r = y from hr0.out.trans (if_neg (by simpa using hx)))
        clear h hx
        go_wp2
        go_ret
        exact ⟨by (rw [hr.out]; try rfl), rfl⟩
    · have hr := Lib.hid (show r = 0 by rw [hr0.out, if_neg (by simpa using hx), hy])
      clear hx hy
      go_wp2
      go_ret
      exact ⟨by (rw [hr.out]; try rfl), rfl⟩
theorem or_to {x y r : Int} (hr : (if x ≠ 0 then x else y) = r) (g : Nat) (w : World) (hb : Blk w g #[.int .i64 x, .int .i64 y] 3) :
    Calls Try.prog 30 #[.slice (some ⟨g, 0, none⟩) 2 2] w fun e w' => e = .returned (.int .i64 r) ∧ w = w' := by
  rw [← hr]; exact or_two x y g w hb
set_option maxRecDepth 100000 in
set_option maxHeartbeats 2000000 in
theorem order_any (a b : L.Fi) (w : World) : Calls Try.prog 18 #[fiV a, fiV b] w fun e w' => e = .returned (.int .i64 (L.ord a b)) ∧ Below w.heap.size w w' := by
  obtain ⟨B0, B1, hB⟩ := two_new w #[.int .i64 (a.num : Int), .int .i64 (a.lev : Int), .int .i64 (a.size : Int), .string ⟨a.first.toArray⟩, .string ⟨a.last.toArray⟩] #[.int .i64 (b.num : Int), .int .i64 (b.lev : Int), .int .i64 (b.size : Int), .string ⟨b.first.toArray⟩, .string ⟨b.last.toArray⟩] 33 33
  obtain ⟨W0, hW0⟩ : ∃ W, W = (w.alloc (.cells #[.int .i64 (a.num : Int), .int .i64 (a.lev : Int), .int .i64 (a.size : Int), .string ⟨a.first.toArray⟩, .string ⟨a.last.toArray⟩] 33)).alloc (.cells #[.int .i64 (b.num : Int), .int .i64 (b.lev : Int), .int .i64 (b.size : Int), .string ⟨b.first.toArray⟩, .string ⟨b.last.toArray⟩] 33) := ⟨_, rfl⟩
  rw [← hW0] at B0 B1 hB
  replace hW0 := Lib.hid hW0
  have C1 := Lib.hid (fun W => cmp_i a.lev b.lev W)
  have C2 := Lib.hid (fun W => cmp_i b.num a.num W)
  have C3 := Lib.hid (fun W => cmp_s a.first b.first W)
  unfold fiV
  have hor : L.ord a b = if a.lev ≠ b.lev ∨ a.lev = 0 then (if L.cmpN a.lev b.lev ≠ 0 then L.cmpN a.lev b.lev else L.cmpN b.num a.num) else L.cmpB a.first b.first := rfl
  generalize L.cmpN a.lev b.lev = p at *
  generalize L.cmpN b.num a.num = q at *
  generalize L.cmpB a.first b.first = z at *
  generalize L.ord a b = r at *
  by_cases h1 : a.lev = b.lev
  · have d1 : ((a.lev : Int) != (b.lev : Int)) = false := by rw [h1]; simp
    by_cases h2 : a.lev = 0
    · have d2 : ((a.lev : Int) == 0) = true := by rw [h2]; rfl
      have hr := Lib.hid (show r = if p ≠ 0 then p else q by rw [hor, if_pos (.inr h2)])
      clear h1 h2 hor
      go_enter Try.func18, Try.ntmps18
      go_wp2
      rw [← hW0.out]
      replace B0 := B0.drew
      replace B1 := B1.drew
      apply wp_region_rel_below [[(2, none)], [(15, some 0)], [(3, none)], [(17, some 2)], [(16, some 1), (18, some 3)], [(3, none)], [(20, some 5)], [(2, none)], [(22, some 7)], [(21, some 6), (23, some 8)], [(19, some 4), (24, some 9)], [(25, some 10)], [(26, some 11)]] [eqv _, eqv _, eqv _, eqv _, eqv _, eqv _, eqv _, eqv _, eqv _, eqv _, blkRow 2 2 #[.int .i64 p, .int .i64 q] 3, eqv _, eqv _] (by kernel_rfl) (by kernel_rfl)
      case hobs =>
        refine ⟨?_, ?_⟩
        · rintro L a1 w1 hT - - ⟨h2, -⟩   -- 0: Op.fieldAddr 33 t2 1
          have e2 : a1.tmps.getD 2 undef = _ := h2
          have f2 := getD_form e2
          clear h2
          go_simp; exact left_intro rfl (Stp.refl _) trivial
        refine ⟨?_, ?_⟩
        · rintro L a1 w1 hT - - ⟨h15, -⟩   -- 1: Op.load 3 t15
          have e15 : a1.tmps.getD 15 undef = _ := h15
          have f15 := getD_form e15
          clear h15
          have c := (B0.at_ hT).cellv (i := 1) rfl
          go_simp; exact left_intro rfl (Stp.refl _) trivial
        refine ⟨?_, ?_⟩
        · rintro L a1 w1 hT - - ⟨h3, -⟩   -- 2: Op.fieldAddr 33 t3 1
          have e3 : a1.tmps.getD 3 undef = _ := h3
          have f3 := getD_form e3
          clear h3
          go_simp; exact left_intro rfl (Stp.refl _) trivial
        refine ⟨?_, ?_⟩
        · rintro L a1 w1 hT - - ⟨h17, -⟩   -- 3: Op.load 3 t17
          have e17 : a1.tmps.getD 17 undef = _ := h17
          have f17 := getD_form e17
          clear h17
          have c := (B1.at_ hT).cellv (i := 1) rfl
          go_simp; exact left_intro rfl (Stp.refl _) trivial
        refine ⟨?_, ?_⟩
        · rintro L a1 w1 hT - - ⟨h16, h18, -⟩   -- 4: Op.call { value (Operand.func 23), args := #[t16, t18], argTypes := #[3, 3] }
          have e16 : a1.tmps.getD 16 undef = _ := h16
          have f16 := getD_form e16
          have e18 : a1.tmps.getD 18 undef = _ := h18
          have f18 := getD_form e18
          clear h16 h18
          go_simp; go_at_call 23; (with_reducible refine (C1.out _).mono ?_); rintro e w2 ⟨rfl, rfl⟩; exact left_intro rfl (Stp.refl _) trivial
        refine ⟨?_, ?_⟩
        · rintro L a1 w1 hT - - ⟨h3, -⟩   -- 5: Op.fieldAddr 33 t3 0
          have e3 : a1.tmps.getD 3 undef = _ := h3
          have f3 := getD_form e3
          clear h3
          go_simp; exact left_intro rfl (Stp.refl _) trivial
        refine ⟨?_, ?_⟩
        · rintro L a1 w1 hT - - ⟨h20, -⟩   -- 6: Op.load 3 t20
          have e20 : a1.tmps.getD 20 undef = _ := h20
          have f20 := getD_form e20
          clear h20
          have c := (B1.at_ hT).cellv (i := 0) rfl
          go_simp; exact left_intro rfl (Stp.refl _) trivial
        refine ⟨?_, ?_⟩
        · rintro L a1 w1 hT - - ⟨h2, -⟩   -- 7: Op.fieldAddr 33 t2 0
          have e2 : a1.tmps.getD 2 undef = _ := h2
          have f2 := getD_form e2
          clear h2
          go_simp; exact left_intro rfl (Stp.refl _) trivial
        refine ⟨?_, ?_⟩
        · rintro L a1 w1 hT - - ⟨h22, -⟩   -- 8: Op.load 3 t22
          have e22 : a1.tmps.getD 22 undef = _ := h22
          have f22 := getD_form e22
          clear h22
          have c := (B0.at_ hT).cellv (i := 0) rfl
          go_simp; exact left_intro rfl (Stp.refl _) trivial
        refine ⟨?_, ?_⟩
        · rintro L a1 w1 hT - - ⟨h21, h23, -⟩   -- 9: Op.call { value (Operand.func 23), args := #[t21, t23], argTypes := #[3, 3] }
          have e21 : a1.tmps.getD 21 undef = _ := h21
          have f21 := getD_form e21
          have e23 : a1.tmps.getD 23 undef = _ := h23
          have f23 := getD_form e23
          clear h21 h23
          go_simp; go_at_call 23; (with_reducible refine (C2.out _).mono ?_); rintro e w2 ⟨rfl, rfl⟩; exact left_intro rfl (Stp.refl _) trivial
        refine ⟨?_, ?_⟩
        · rintro L a1 w1 hT - - ⟨h19, h24, -⟩   -- 10: Op.buildSlice 37 2 #[(0, t19), (1, t24)]
          have e19 : a1.tmps.getD 19 undef = _ := h19
          have f19 := getD_form e19
          have e24 : a1.tmps.getD 24 undef = _ := h24
          have f24 := getD_form e24
          clear h19 h24
          go_simp; exact left_intro (T := Stp) (Ph := fun _ _ _ => True) (blkRow_new _ _ _ _ _) (Stp.alloc _ _) trivial
        refine ⟨?_, ?_⟩
        · rintro L a1 w1 hT - - ⟨h25, -⟩   -- 11: Op.call { value (Operand.func 30), args := #[t25], argTypes := #[37] }
          obtain ⟨b25, e25, B25⟩ : (blkRow 2 2 #[.int .i64 p, .int .i64 q] 3) (a1.tmps.getD 25 undef) w1 := h25
          have f25 := getD_form e25
          go_simp; go_at_call 30; (with_reducible refine (or_to hr.out.symm _ _ B25).mono ?_); rintro e w2 ⟨rfl, rfl⟩; exact left_intro rfl (Stp.refl _) trivial
        refine ⟨?_, ?_⟩
        · rintro L a1 w1 hT - - ⟨h26, -⟩   -- 12: Op.assign t26
          have e26 : a1.tmps.getD 26 undef = _ := h26
          have f26 := getD_form e26
          clear h26
          go_simp; exact left_intro rfl (Stp.refl _) trivial
        trivial
      case hmono => repeat (first | exact trivial | refine ⟨fun _ _ _ _ h => h, ?_⟩ | refine ⟨mono_blkRow _ _ _ _, ?_⟩)
      case hend =>
        intro w2 hT
        rintro _ rfl _ rfl _ rfl _ rfl _ rfl _ rfl _ rfl _ rfl _ rfl _ rfl v25 - _ rfl _ rfl
        simp only [relEnd, Act.put, List.setIfInBounds_toArray, List.set_cons_succ, List.set_cons_zero]
        go_wp2
        go_ret
        exact ⟨rfl, hB.trans (hT.mono hB.size)⟩
    · have d2 : ((a.lev : Int) == 0) = false := by rw [beq_eq_false_iff_ne]; omega
      have hr := Lib.hid (show r = z by rw [hor, if_neg (by intro h; rcases h with h | h; exact h h1; exact h2 h)])
      clear h1 h2 hor
      go_enter Try.func18, Try.ntmps18
      go_wp2_with (go_at_call 31; (with_reducible refine (C3.out _).mono ?_); rintro e w1 ⟨rfl, rfl⟩)
      go_ret
      exact ⟨by (rw [hr.out]; try rfl), by rw [← hW0.out]; exact hB⟩
  · have d1 : ((a.lev : Int) != (b.lev : Int)) = true := by rw [bne_iff_ne]; omega
    have hr := Lib.hid (show r = if p ≠ 0 then p else q by rw [hor, if_pos (.inl h1)])
    clear h1 hor
    go_enter Try.func18, Try.ntmps18
    go_wp2
    rw [← hW0.out]
    replace B0 := B0.drew
    replace B1 := B1.drew
    apply wp_region_rel_below [[(2, none)], [(15, some 0)], [(3, none)], [(17, some 2)], [(16, some 1), (18, some 3)], [(3, none)], [(20, some 5)], [(2, none)], [(22, some 7)], [(21, some 6), (23, some 8)], [(19, some 4), (24, some 9)], [(25, some 10)], [(26, some 11)]] [eqv _, eqv _, eqv _, eqv _, eqv _, eqv _, eqv _, eqv _, eqv _, eqv _, blkRow 2 2 #[.int .i64 p, .int .i64 q] 3, eqv _, eqv _] (by kernel_rfl) (by kernel_rfl)
    case hobs =>
      refine ⟨?_, ?_⟩
      · rintro L a1 w1 hT - - ⟨h2, -⟩   -- 0: Op.fieldAddr 33 t2 1
        have e2 : a1.tmps.getD 2 undef = _ := h2
        have f2 := getD_form e2
        clear h2
        go_simp; exact left_intro rfl (Stp.refl _) trivial
      refine ⟨?_, ?_⟩
      · rintro L a1 w1 hT - - ⟨h15, -⟩   -- 1: Op.load 3 t15
        have e15 : a1.tmps.getD 15 undef = _ := h15
        have f15 := getD_form e15
        clear h15
        have c := (B0.at_ hT).cellv (i := 1) rfl
        go_simp; exact left_intro rfl (Stp.refl _) trivial
      refine ⟨?_, ?_⟩
      · rintro L a1 w1 hT - - ⟨h3, -⟩   -- 2: Op.fieldAddr 33 t3 1
        have e3 : a1.tmps.getD 3 undef = _ := h3
        have f3 := getD_form e3
        clear h3
        go_simp; exact left_intro rfl (Stp.refl _) trivial
      refine ⟨?_, ?_⟩
      · rintro L a1 w1 hT - - ⟨h17, -⟩   -- 3: Op.load 3 t17
        have e17 : a1.tmps.getD 17 undef = _ := h17
        have f17 := getD_form e17
        clear h17
        have c := (B1.at_ hT).cellv (i := 1) rfl
        go_simp; exact left_intro rfl (Stp.refl _) trivial
      refine ⟨?_, ?_⟩
      · rintro L a1 w1 hT - - ⟨h16, h18, -⟩   -- 4: Op.call { value (Operand.func 23), args := #[t16, t18], argTypes := #[3, 3] }
        have e16 : a1.tmps.getD 16 undef = _ := h16
        have f16 := getD_form e16
        have e18 : a1.tmps.getD 18 undef = _ := h18
        have f18 := getD_form e18
        clear h16 h18
        go_simp; go_at_call 23; (with_reducible refine (C1.out _).mono ?_); rintro e w2 ⟨rfl, rfl⟩; exact left_intro rfl (Stp.refl _) trivial
      refine ⟨?_, ?_⟩
      · rintro L a1 w1 hT - - ⟨h3, -⟩   -- 5: Op.fieldAddr 33 t3 0
        have e3 : a1.tmps.getD 3 undef = _ := h3
        have f3 := getD_form e3
        clear h3
        go_simp; exact left_intro rfl (Stp.refl _) trivial
      refine ⟨?_, ?_⟩
      · rintro L a1 w1 hT - - ⟨h20, -⟩   -- 6: Op.load 3 t20
        have e20 : a1.tmps.getD 20 undef = _ := h20
        have f20 := getD_form e20
        clear h20
        have c := (B1.at_ hT).cellv (i := 0) rfl
        go_simp; exact left_intro rfl (Stp.refl _) trivial
      refine ⟨?_, ?_⟩
      · rintro L a1 w1 hT - - ⟨h2, -⟩   -- 7: Op.fieldAddr 33 t2 0
        have e2 : a1.tmps.getD 2 undef = _ := h2
        have f2 := getD_form e2
        clear h2
        go_simp; exact left_intro rfl (Stp.refl _) trivial
      refine ⟨?_, ?_⟩
      · rintro L a1 w1 hT - - ⟨h22, -⟩   -- 8: Op.load 3 t22
        have e22 : a1.tmps.getD 22 undef = _ := h22
        have f22 := getD_form e22
        clear h22
        have c := (B0.at_ hT).cellv (i := 0) rfl
        go_simp; exact left_intro rfl (Stp.refl _) trivial
      refine ⟨?_, ?_⟩
      · rintro L a1 w1 hT - - ⟨h21, h23, -⟩   -- 9: Op.call { value (Operand.func 23), args := #[t21, t23], argTypes := #[3, 3] }
        have e21 : a1.tmps.getD 21 undef = _ := h21
        have f21 := getD_form e21
        have e23 : a1.tmps.getD 23 undef = _ := h23
        have f23 := getD_form e23
        clear h21 h23
        go_simp; go_at_call 23; (with_reducible refine (C2.out _).mono ?_); rintro e w2 ⟨rfl, rfl⟩; exact left_intro rfl (Stp.refl _) trivial
      refine ⟨?_, ?_⟩
      · rintro L a1 w1 hT - - ⟨h19, h24, -⟩   -- 10: Op.buildSlice 37 2 #[(0, t19), (1, t24)]
        have e19 : a1.tmps.getD 19 undef = _ := h19
        have f19 := getD_form e19
        have e24 : a1.tmps.getD 24 undef = _ := h24
        have f24 := getD_form e24
        clear h19 h24
        go_simp; exact left_intro (T := Stp) (Ph := fun _ _ _ => True) (blkRow_new _ _ _ _ _) (Stp.alloc _ _) trivial
      refine ⟨?_, ?_⟩
      · rintro L a1 w1 hT - - ⟨h25, -⟩   -- 11: Op.call { value (Operand.func 30), args := #[t25], argTypes := #[37] }
        obtain ⟨b25, e25, B25⟩ : (blkRow 2 2 #[.int .i64 p, .int .i64 q] 3) (a1.tmps.getD 25 undef) w1 := h25
        have f25 := getD_form e25
        go_simp; go_at_call 30; (with_reducible refine (or_to hr.out.symm _ _ B25).mono ?_); rintro e w2 ⟨rfl, rfl⟩; exact left_intro rfl (Stp.refl _) trivial
      refine ⟨?_, ?_⟩
      · rintro L a1 w1 hT - - ⟨h26, -⟩   -- 12: Op.assign t26
        have e26 : a1.tmps.getD 26 undef = _ := h26
        have f26 := getD_form e26
        clear h26
        go_simp; exact left_intro rfl (Stp.refl _) trivial
      trivial
    case hmono => repeat (first | exact trivial | refine ⟨fun _ _ _ _ h => h, ?_⟩ | refine ⟨mono_blkRow _ _ _ _, ?_⟩)
    case hend =>
      intro w2 hT
      rintro _ rfl _ rfl _ rfl _ rfl _ rfl _ rfl _ rfl _ rfl _ rfl _ rfl v25 - _ rfl _ rfl
      simp only [relEnd, Act.put, List.setIfInBounds_toArray, List.set_cons_succ, List.set_cons_zero]
      go_wp2
      go_ret
      exact ⟨rfl, hB.trans (hT.mono hB.size)⟩
end Go.Proofs.Ytnfabofkfnmplaa

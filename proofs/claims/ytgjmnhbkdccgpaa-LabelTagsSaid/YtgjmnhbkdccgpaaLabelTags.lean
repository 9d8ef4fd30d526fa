/- LabelTags: unlike tags are unlike bytes that are summed. No condition. -/
import Derived.Test.YtgjmnhbkdccgpaaWLAwake
import Derived.Test.YtgjmnhbkdccgpaaWRB14
import Derived.Test.YtgjmnhbkdccgpaaOpenL
namespace Go.Proofs.Ytgjmnhbkdccgpaa
open Go.ChangeShapes Go.WideShapes Go.ChangeAt Go.RowKit

theorem join_tag {t u : UInt8} (h : t ≠ u) (a b : List (List UInt8)) : ((⟨(J.joinB t a).toArray⟩ : ByteArray).toList == (⟨(J.joinB u b).toArray⟩ : ByteArray).toList) = false :=
  str_ne fun e => h (by unfold J.joinB at e; injection e)
set_option maxRecDepth 100000 in
set_option maxHeartbeats 2000000 in
theorem tags_walk (s z : List UInt8) (v0 : List UInt8) (hs : s.length = 32) (hz : z.length = 32) (w : World) :
    Calls Try.prog 11 #[.agg (labA s), .agg (labA z), .string ⟨v0.toArray⟩] w fun e w' => e = .returned (.bool true) ∧ Below w.heap.size w w' := by
  have h00 := lcut_any v0 100
  rw [show ((100 : Nat) : Int) = 100 from rfl] at h00
  have hv : (v0.take 100).length ≤ 100 := by rw [List.length_take]; omega
  generalize v0.take 100 = v at h00 hv
  have H00 := Lib.hid h00
  clear h00
  have RB2 := Lib.hid (fun v1 W (h : Labs W v1 [s]) => r14bytes_lit 2 2 rfl [s] [] v1 (.slice none 0 0) W h (.inl ⟨rfl, rfl⟩) (by rw [List.append_nil, joinB1_len]; omega))
  have RB3 := Lib.hid (fun v1 W (h : Labs W v1 [s]) => r14bytes_lit 3 3 rfl [s] [] v1 (.slice none 0 0) W h (.inl ⟨rfl, rfl⟩) (by rw [List.append_nil, joinB1_len]; omega))
  have RB4 := Lib.hid (fun v1 v2 W (h : Labs W v1 [z]) (h2 : Strs W v2 [v]) => r14bytes_lit 4 4 rfl [z] [v] v1 v2 W h h2 (by rw [List.singleton_append, joinB2_len]; omega))
  have RB5 := Lib.hid (fun W => r14bytes_lit 5 5 rfl [] [] (.slice none 0 0) (.slice none 0 0) W (.inl ⟨rfl, rfl⟩) (.inl ⟨rfl, rfl⟩) (by decide))
  have RB6 := Lib.hid (fun W => r14bytes_lit 6 6 rfl [] [] (.slice none 0 0) (.slice none 0 0) W (.inl ⟨rfl, rfl⟩) (.inl ⟨rfl, rfl⟩) (by decide))
  have n23 := join_tag (t := 3) (u := 2) (by decide) ([s] ++ []) ([s] ++ [])
  have n24 := join_tag (t := 4) (u := 2) (by decide) ([z] ++ [v]) ([s] ++ [])
  have n34 := join_tag (t := 4) (u := 3) (by decide) ([z] ++ [v]) ([s] ++ [])
  have n25 := join_tag (t := 5) (u := 2) (by decide) ([] ++ []) ([s] ++ [])
  have n35 := join_tag (t := 5) (u := 3) (by decide) ([] ++ []) ([s] ++ [])
  have n45 := join_tag (t := 5) (u := 4) (by decide) ([] ++ []) ([z] ++ [v])
  have n26 := join_tag (t := 6) (u := 2) (by decide) ([] ++ []) ([s] ++ [])
  have n36 := join_tag (t := 6) (u := 3) (by decide) ([] ++ []) ([s] ++ [])
  have n46 := join_tag (t := 6) (u := 4) (by decide) ([] ++ []) ([z] ++ [v])
  have n56 := join_tag (t := 6) (u := 5) (by decide) ([] ++ []) ([] ++ [])
  generalize (⟨(J.joinB 2 ([s] ++ [])).toArray⟩ : ByteArray) = J2 at *
  generalize (⟨(J.joinB 3 ([s] ++ [])).toArray⟩ : ByteArray) = J3 at *
  generalize (⟨(J.joinB 4 ([z] ++ [v])).toArray⟩ : ByteArray) = J4 at *
  generalize (⟨(J.joinB 5 ([] ++ [])).toArray⟩ : ByteArray) = J5 at *
  generalize (⟨(J.joinB 6 ([] ++ [])).toArray⟩ : ByteArray) = J6 at *
  obtain ⟨X, hX⟩ : ∃ X : Nat → ByteArray, (X 0 = J2 ∧ X 1 = J3 ∧ X 2 = J4 ∧ X 3 = J5 ∧ X 4 = J6) := ⟨fun n => match n with | 0 => J2 | 1 => J3 | 2 => J4 | 3 => J5 | _ => J6, rfl, rfl, rfl, rfl, rfl⟩
  have hne : ∀ i j, j < i → i < 5 → ((X i).toList == (X j).toList) = false := by
    obtain ⟨x0, x1, x2, x3, x4⟩ := hX
    intro i j hj hi
    match i, j, hj, hi with
    | 1, 0, _, _ => rw [x0, x1]; exact n23
    | 2, 0, _, _ => rw [x0, x2]; exact n24
    | 2, 1, _, _ => rw [x1, x2]; exact n34
    | 3, 0, _, _ => rw [x0, x3]; exact n25
    | 3, 1, _, _ => rw [x1, x3]; exact n35
    | 3, 2, _, _ => rw [x2, x3]; exact n45
    | 4, 0, _, _ => rw [x0, x4]; exact n26
    | 4, 1, _, _ => rw [x1, x4]; exact n36
    | 4, 2, _, _ => rw [x2, x4]; exact n46
    | 4, 3, _, _ => rw [x3, x4]; exact n56
  have hcs : ∀ i, i < 5 → (#[.string J2, .string J3, .string J4, .string J5, .string J6] : Array Value)[i]? = some (.string (X i)) := by
    obtain ⟨x0, x1, x2, x3, x4⟩ := hX
    intro i hi
    match i, hi with
    | 0, _ => rw [x0]; rfl
    | 1, _ => rw [x1]; rfl
    | 2, _ => rw [x2]; rfl
    | 3, _ => rw [x3]; rfl
    | 4, _ => rw [x4]; rfl
  have Hne := Lib.hid hne
  have Hcs := Lib.hid hcs
  clear n23 n24 n34 n25 n35 n45 n26 n36 n46 n56 hX hne hcs
  have b0 : Blk (w.alloc (.cells (labA s) 25)) w.heap.size (labA s) 25 := Blk.new _ _ _
  have b1 : Blk ((w.alloc (.cells (labA s) 25)).alloc (.cells (labA z) 25)) (w.heap.size + 1) (labA z) 25 := blk_new1 _ _ _ _
  have b0 := b0.alloc (.cells (labA z) 25)
  have hB := (below_alloc1 w (.cells (labA s) 25)).alloc (o := .cells (labA z) 25) (by simp)
  go_enter Try.func11, Try.ntmps11
  go_wp2_with (go_at_call 18; with_reducible refine (H00.out _).mono ?_; rintro e w0 ⟨rfl, rfl⟩)
  have B0 := b0.drew
  have B1 := b1.drew
  clear b0 b1
  generalize hw9 : (w.alloc (.cells (labA s) 25)).alloc (.cells (labA z) 25) = w9 at *
  clear hw9
  apply wp_region_rel_below [[(3, none)], [(12, some 0)], [(13, some 1)], [(3, none)], [(15, some 3)], [(16, some 4)], [(4, none)], [(18, some 6)], [(2, none)], [(20, some 8)], [(19, some 7), (21, some 9)], [], [], [(14, some 2), (17, some 5), (22, some 10), (23, some 11), (24, some 12)], [(25, some 13)]] [eqv _, blkRow 1 1 (labA s) 25, eqv _, eqv _, blkRow 1 1 (labA s) 25, eqv _, eqv _, blkRow 1 1 (labA z) 25, eqv _, blkRow 1 1 #[strV v] 9, eqv _, eqv _, eqv _, blkRow 5 5 #[.string J2, .string J3, .string J4, .string J5, .string J6] 9, blkRow 5 5 #[.string J2, .string J3, .string J4, .string J5, .string J6] 9] (by kernel_rfl) (by kernel_rfl)
  case hobs =>
    refine ⟨?_, ?_⟩
    · rintro L a1 w1 hT - - ⟨h3, -⟩   -- 0: Op.load 25 t3
      have e3 : a1.tmps.getD 3 undef = _ := h3
      have f3 := getD_form e3
      clear h3
      exact wp_load_lab (.tmp 3) rfl e3 (B0.at_ hT) hs (left_intro rfl (Stp.refl _) trivial)
    refine ⟨?_, ?_⟩
    · rintro L a1 w1 hT - - ⟨h12, -⟩   -- 1: Op.buildSlice 54 1 #[(0, t12)]
      have e12 : a1.tmps.getD 12 undef = _ := h12
      have f12 := getD_form e12
      clear h12
      exact wp_build_lab 12 rfl e12 (by assumption) (left_intro (T := Stp) (Ph := fun _ _ _ => True) (blkRow_new _ _ _ _ _) (Stp.alloc _ _) trivial)
    refine ⟨?_, ?_⟩
    · rintro L a1 w1 hT - - ⟨h13, -⟩   -- 2: Op.call { value (Operand.func 35), args := #[const (2:u8), t13, const (Value.slice none 0 
      obtain ⟨b13, e13, B13⟩ : (blkRow 1 1 (labA s) 25) (a1.tmps.getD 13 undef) w1 := h13
      have f13 := getD_form e13
      go_simp; go_at_call 35; (with_reducible refine (RB2.out _ _ (Labs.one hs B13)).mono ?_); rintro e w2 ⟨rfl, hb⟩; exact left_intro rfl (Stp.of hb) trivial
    refine ⟨?_, ?_⟩
    · rintro L a1 w1 hT - - ⟨h3, -⟩   -- 3: Op.load 25 t3
      have e3 : a1.tmps.getD 3 undef = _ := h3
      have f3 := getD_form e3
      clear h3
      exact wp_load_lab (.tmp 3) rfl e3 (B0.at_ hT) hs (left_intro rfl (Stp.refl _) trivial)
    refine ⟨?_, ?_⟩
    · rintro L a1 w1 hT - - ⟨h15, -⟩   -- 4: Op.buildSlice 54 1 #[(0, t15)]
      have e15 : a1.tmps.getD 15 undef = _ := h15
      have f15 := getD_form e15
      clear h15
      exact wp_build_lab 15 rfl e15 (by assumption) (left_intro (T := Stp) (Ph := fun _ _ _ => True) (blkRow_new _ _ _ _ _) (Stp.alloc _ _) trivial)
    refine ⟨?_, ?_⟩
    · rintro L a1 w1 hT - - ⟨h16, -⟩   -- 5: Op.call { value (Operand.func 35), args := #[const (3:u8), t16, const (Value.slice none 0 
      obtain ⟨b16, e16, B16⟩ : (blkRow 1 1 (labA s) 25) (a1.tmps.getD 16 undef) w1 := h16
      have f16 := getD_form e16
      go_simp; go_at_call 35; (with_reducible refine (RB3.out _ _ (Labs.one hs B16)).mono ?_); rintro e w2 ⟨rfl, hb⟩; exact left_intro rfl (Stp.of hb) trivial
    refine ⟨?_, ?_⟩
    · rintro L a1 w1 hT - - ⟨h4, -⟩   -- 6: Op.load 25 t4
      have e4 : a1.tmps.getD 4 undef = _ := h4
      have f4 := getD_form e4
      clear h4
      exact wp_load_lab (.tmp 4) rfl e4 (B1.at_ hT) hz (left_intro rfl (Stp.refl _) trivial)
    refine ⟨?_, ?_⟩
    · rintro L a1 w1 hT - - ⟨h18, -⟩   -- 7: Op.buildSlice 54 1 #[(0, t18)]
      have e18 : a1.tmps.getD 18 undef = _ := h18
      have f18 := getD_form e18
      clear h18
      exact wp_build_lab 18 rfl e18 (by assumption) (left_intro (T := Stp) (Ph := fun _ _ _ => True) (blkRow_new _ _ _ _ _) (Stp.alloc _ _) trivial)
    refine ⟨?_, ?_⟩
    · rintro L a1 w1 hT - - ⟨h2, -⟩   -- 8: Op.move t2
      have e2 : a1.tmps.getD 2 undef = _ := h2
      have f2 := getD_form e2
      clear h2
      go_simp; exact left_intro rfl (Stp.refl _) trivial
    refine ⟨?_, ?_⟩
    · rintro L a1 w1 hT - - ⟨h20, -⟩   -- 9: Op.buildSlice 38 1 #[(0, t20)]
      have e20 : a1.tmps.getD 20 undef = _ := h20
      have f20 := getD_form e20
      clear h20
      go_simp; exact left_intro (T := Stp) (Ph := fun _ _ _ => True) (blkRow_new _ _ _ _ _) (Stp.alloc _ _) trivial
    refine ⟨?_, ?_⟩
    · rintro L a1 w1 hT - - ⟨h19, h21, -⟩   -- 10: Op.call { value (Operand.func 35), args := #[const (4:u8), t19, t21], argTypes := #[5, 54,
      obtain ⟨b19, e19, B19⟩ : (blkRow 1 1 (labA z) 25) (a1.tmps.getD 19 undef) w1 := h19
      have f19 := getD_form e19
      obtain ⟨b21, e21, B21⟩ : (blkRow 1 1 #[strV v] 9) (a1.tmps.getD 21 undef) w1 := h21
      have f21 := getD_form e21
      go_simp; go_at_call 35; (with_reducible refine (RB4.out _ _ _ (Labs.one hz B19) (Strs.one B21)).mono ?_); rintro e w2 ⟨rfl, hb⟩; exact left_intro rfl (Stp.of hb) trivial
    refine ⟨?_, ?_⟩
    · rintro L a1 w1 hT - - -   -- 11: Op.call { value (Operand.func 35), args := #[const (5:u8), const (Value.slice none 0 0), c
      go_simp; go_at_call 35; (with_reducible refine (RB5.out _).mono ?_); rintro e w2 ⟨rfl, hb⟩; exact left_intro rfl (Stp.of hb) trivial
    refine ⟨?_, ?_⟩
    · rintro L a1 w1 hT - - -   -- 12: Op.call { value (Operand.func 35), args := #[const (6:u8), const (Value.slice none 0 0), c
      go_simp; go_at_call 35; (with_reducible refine (RB6.out _).mono ?_); rintro e w2 ⟨rfl, hb⟩; exact left_intro rfl (Stp.of hb) trivial
    refine ⟨?_, ?_⟩
    · rintro L a1 w1 hT - - ⟨h14, h17, h22, h23, h24, -⟩   -- 13: Op.buildSlice 38 5 #[(0, t14), (1, t17), (2, t22), (3, t23), (4, t24)]
      have e14 : a1.tmps.getD 14 undef = _ := h14
      have f14 := getD_form e14
      have e17 : a1.tmps.getD 17 undef = _ := h17
      have f17 := getD_form e17
      have e22 : a1.tmps.getD 22 undef = _ := h22
      have f22 := getD_form e22
      have e23 : a1.tmps.getD 23 undef = _ := h23
      have f23 := getD_form e23
      have e24 : a1.tmps.getD 24 undef = _ := h24
      have f24 := getD_form e24
      clear h14 h17 h22 h23 h24
      go_simp; exact left_intro (T := Stp) (Ph := fun _ _ _ => True) (blkRow_new _ _ _ _ _) (Stp.alloc _ _) trivial
    refine ⟨?_, ?_⟩
    · rintro L a1 w1 hT - - ⟨h25, -⟩   -- 14: Op.assign t25
      obtain ⟨b25, e25, B25⟩ : (blkRow 5 5 #[.string J2, .string J3, .string J4, .string J5, .string J6] 9) (a1.tmps.getD 25 undef) w1 := h25
      have f25 := getD_form e25
      go_simp; exact left_intro (T := Stp) (Ph := fun _ _ _ => True) ⟨b25, rfl, B25⟩ (Stp.refl _) trivial
    trivial
  case hmono => repeat (first | exact trivial | refine ⟨fun _ _ _ _ h => h, ?_⟩ | refine ⟨mono_blkRow _ _ _ _, ?_⟩)
  case hend =>
    intro w2 hT
    rintro _ rfl v13 - _ rfl _ rfl v16 - _ rfl _ rfl v19 - _ rfl v21 - _ rfl _ rfl _ rfl v25 - v7 ⟨b7, rfl, B7⟩
    simp only [relEnd, Act.put, List.setIfInBounds_toArray, List.set_cons_succ, List.set_cons_zero]
    have hB9 := hB.trans (hT.mono hB.size)
    clear B0 B1 hT hB RB2 RB3 RB4 RB5 RB6 H00
    go_wp2
    go_loopw [28] (fun x wr => ∃ i : Nat, x = .int .i64 (i : Int) ∧ i ≤ 5 ∧ Blk wr b7 #[.string J2, .string J3, .string J4, .string J5, .string J6] 9 ∧ Below w.heap.size w wr) (fun x _ => 5 - (intOf x).toNat)
    case atStart => exact ⟨0, rfl, by omega, B7, hB9⟩
    case round =>
      clear B7 hB9
      obtain ⟨i, rfl, hi, B7, hB9⟩ := hrel
      have i0 : (0 : Int) ≤ (i : Int) := by omega
      have i5 : (i : Int) ≤ 5 := by omega
      by_cases hlt : i < 5
      · have d0 : decide ((i : Int) < 5) = true := by simp; omega
        have d0' : decide (i < 5) = true := by simp; omega
        go_wp2
        go_loopw [35] (fun x wr => ∃ j : Nat, x = .int .i64 (j : Int) ∧ j ≤ i ∧ Blk wr b7 #[.string J2, .string J3, .string J4, .string J5, .string J6] 9 ∧ Below w.heap.size w wr) (fun x _ => i - (intOf x).toNat)
        case atStart => exact ⟨0, rfl, by omega, B7, hB9⟩
        case round =>
          clear B7 hB9
          obtain ⟨j, rfl, hj, B7, hB9⟩ := hrel
          have j0 : (0 : Int) ≤ (j : Int) := by omega
          have j5 : (j : Int) ≤ 5 := by omega
          by_cases hjt : j < i
          · have d1 : decide ((j : Int) < (i : Int)) = true := by simp; omega
            have d1' : decide (j < i) = true := by simpa using hjt
            have ci := B7.cellv (Hcs.out i hlt)
            have cj := B7.cellv (Hcs.out j (by omega))
            have hn := Hne.out i j hjt hlt
            generalize X i = Xi at *
            generalize X j = Xj at *
            have jl : (j : Int) < 5 := by omega
            have il : (i : Int) < 5 := by omega
            go_wp2
            go_quiet (fail)
            go_wp2
            go_roundw
            case rel => exact ⟨j + 1, by go_num, by omega, B7.drewN _, below_drewN hB9 _⟩
            case measure => simp [intOf]; omega
          · obtain rfl : j = i := by omega
            have d1 : decide ((j : Int) < (j : Int)) = false := by simp
            have d1' : decide (j < j) = false := by simp
            go_wp2
            go_roundw
            case rel => exact ⟨j + 1, by go_num, by omega, B7, hB9⟩
            case measure => simp [intOf]; omega
      · obtain rfl : i = 5 := by omega
        go_wp2_with (go_at_call 32; with_reducible refine (lawake_any _).mono ?_; rintro e w3 ⟨rfl, hb1⟩)
        go_ret
        exact ⟨rfl, hB9.trans (hb1.mono hB9.size)⟩
set_option maxRecDepth 1000000 in
theorem tags_law : LawHolds 11 Try.f11 := by
  intro H enc W base args ds p hval hA
  rw [Try.params11] at hA hval
  obtain ⟨v0, vs0, d0, ds0, p0, q0, hargs, rfl, rfl, k0, r0⟩ := trodAll_cons hA
  obtain ⟨v1, vs1, d1, ds1, p1, q1, rfl, rfl, rfl, k1, r1⟩ := trodAll_cons r0
  obtain ⟨v2, vs2, d2, ds2, p2, q2, rfl, rfl, rfl, k2, r2⟩ := trodAll_cons r1
  obtain ⟨rfl, rfl, rfl⟩ := trodAll_nil r2
  obtain rfl : args = #[v0, v1, v2] := by cases args; simp_all
  obtain ⟨a, ha, rfl⟩ := open_lab (hval 0 25 v0 rfl rfl) k0
  obtain ⟨b, hb, rfl⟩ := open_lab (hval 1 25 v1 rfl rfl) k1
  obtain ⟨m, rfl, _⟩ := open_text (hval 2 9 v2 rfl rfl) k2
  exact tags_walk a b m ha hb W

theorem tags_lifted (os : Os) (started : os.Started) (H : Type) (enc : TypeId × Value → H) :
    ReturnsInHanded {} Try.checked os 11 .any (Rows.labelTagsSpec.pre6 enc Try.prog Try.f11 Rows.labelTagsRow.domain false) (Rows.labelTagsSpec.post enc Try.prog Try.f11 false true false false) :=
  lifted_of started (by kernel_rfl) Try.func11
    (ChangeSpec.witness6 (enc := enc) (C := Try.checked) false ⟨#[], #[.agg (labA zlab), .agg (labA zlab), .string ⟨#[]⟩], []⟩ 8 (by kernel_rfl) (by kernel_rfl) (by kernel_rfl) (by kernel_rfl))
    rfl (by kernel_rfl) (fun ds h => by rw [Try.params11] at h; match ds, h with | [_, _, _], _ => rfl) (by rw [Try.params11]; exact of_decide_eq_true (by kernel_rfl)) tags_law
theorem tags_over : Rows.labelTagsRow.holds Try.pinned (OpenSpec.ofChange Rows.labelTagsSpec) :=
  OpenClaim.holds_of_wide 11 Try.f11 rfl rfl rfl rfl rfl rfl rfl ⟨rfl, rfl, rfl, rfl, rfl⟩ rfl rfl rfl rfl rfl (by kernel_rfl) Try.func11 (by kernel_rfl)
    (of_decide_eq_true (by kernel_rfl)) (by unfold Func.isWrapper; first | (rw [if_pos (by decide +kernel)]; kernel_rfl) | (rw [if_neg (by decide +kernel)]; exact ⟨rfl, rfl⟩))
    (fun os started H enc _ => tags_lifted os started H enc)
/-- The statement. -/
theorem tags_proved : Rows.LabelTagsSaid := tags_over
#print axioms tags_proved
end Go.Proofs.Ytgjmnhbkdccgpaa

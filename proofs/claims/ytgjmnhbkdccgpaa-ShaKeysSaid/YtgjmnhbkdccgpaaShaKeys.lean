/- ShaKeys: long keys are as their sums, and noughts behind short ones don't count. No condition. -/
import Derived.Test.YtgjmnhbkdccgpaaShaAwake
import Derived.Test.YtgjmnhbkdccgpaaWMac
namespace Go.Proofs.Ytgjmnhbkdccgpaa
open Go.ChangeShapes Go.WideShapes Go.ChangeAt Go.RowKit

theorem mac_long_key (key text : List UInt8) (h : 64 < key.length) : S.mac (S.sum key) text = S.mac key text := by
  have e : S.key64 (S.sum key) = S.key64 key := by
    unfold S.key64
    have h1 : S.keyOf (S.sum key) = S.sum key := if_neg (by rw [S.sum_length]; omega)
    have h2 : S.keyOf key = S.sum key := if_pos h
    rw [h1, h2]
  unfold S.mac; rw [e]
theorem mac_nought (key text : List UInt8) (h : key.length < 64) : S.mac (key ++ [0]) text = S.mac key text := by
  have e : S.key64 (key ++ [0]) = S.key64 key := by
    unfold S.key64
    have h1 : S.keyOf (key ++ [0]) = key ++ [0] := if_neg (by simp; omega)
    have h2 : S.keyOf key = key := if_neg (by omega)
    rw [h1, h2, List.length_append, List.length_singleton]
    obtain ⟨m, hm⟩ : ∃ m, 64 - key.length = m + 1 := ⟨64 - key.length - 1, by omega⟩
    rw [hm, show 64 - (key.length + 1) = m from by omega, List.replicate_succ, List.append_assoc]
    rfl
  unfold S.mac; rw [e]
set_option maxRecDepth 100000 in
set_option maxHeartbeats 1000000 in
theorem keys_walk (key s : List UInt8) (w : World) :
    Calls Try.prog 8 #[.string ⟨key.toArray⟩, .string ⟨s.toArray⟩] w fun e w' => e = .returned (.bool true) ∧ Below w.heap.size w w' := by
  have h0 := lcut_any key 200
  have h1 := lcut_any s 200
  rw [show ((200 : Nat) : Int) = 200 from rfl] at h0 h1
  have ht : (key.take 200).length ≤ 200 := by rw [List.length_take]; omega
  have ht2 : (s.take 200).length ≤ 200 := by rw [List.length_take]; omega
  generalize key.take 200 = k at h0 ht
  generalize s.take 200 = t at h1 ht2
  have H0 := Lib.hid h0
  have H00 := Lib.hid h1
  have H1 := Lib.hid (fun W => mac_any k t W (by omega) (by omega))
  have hl := S.mac_length k t
  have HE := Lib.hid (eql_lab (S.mac k t) (S.mac k t) hl hl)
  rw [beq_self_eq_true] at HE
  have hz := str_size k
  clear h0 h1 hl
  rcases Nat.lt_trichotomy k.length 64 with hk | hk | hk
  · have d0 : decide ((64 : Int) < ((⟨k.toArray⟩ : ByteArray).size : Int)) = false := by rw [hz]; simp; omega
    have d0' : decide (64 < (⟨k.toArray⟩ : ByteArray).size) = false := by rw [hz]; simp; omega
    have d1 : (((⟨k.toArray⟩ : ByteArray).size : Int) == 64) = false := by rw [hz, beq_eq_false_iff_ne]; omega
    have ha := str_add k [0] (by simp; omega)
    have H2 := Lib.hid (fun W => mac_any (k ++ [0]) t W (by simp; omega) (by omega))
    rw [mac_nought k t hk] at H2
    clear hz hk ht ht2
    generalize S.mac k t = f at *
    generalize k ++ [0] = k0 at *
    generalize hKS : (⟨k.toArray⟩ : ByteArray) = KS at *
    clear hKS
    go_enter Try.func8, Try.ntmps8
    go_wp2_with (first | (go_at_call 18; with_reducible refine (H0.out _).mono ?_; rintro e w1 ⟨rfl, rfl⟩) | (go_at_call 18; with_reducible refine (H00.out _).mono ?_; rintro e w1 ⟨rfl, rfl⟩) | (go_at_call 19; with_reducible refine (awake_any _).mono ?_; rintro e w1 ⟨rfl, hb1⟩) | (go_at_call 28; with_reducible refine (H1.out _).mono ?_; rintro e w2 ⟨rfl, hb2⟩; have hB := hb1.trans (hb2.mono hb1.size)) | (go_at_call 28; with_reducible refine (H2.out _).mono ?_; rintro e w3 ⟨rfl, hb3⟩; replace hB := hB.trans (hb3.mono hB.size)) | (refine wpList_bin (by rfl) .eql 25 25 (.tmp 34) (.tmp 38) (by rfl) (labA f) (labA f) (by rfl) (by rfl) guard_lab (.bool true) (HE.out) ?_; simp only [Act.put, List.setIfInBounds_toArray, List.set_cons_succ, List.set_cons_zero]))
    go_ret
    exact ⟨rfl, hB⟩
  · have d0 : decide ((64 : Int) < ((⟨k.toArray⟩ : ByteArray).size : Int)) = false := by rw [hz]; simp; omega
    have d0' : decide (64 < (⟨k.toArray⟩ : ByteArray).size) = false := by rw [hz]; simp; omega
    have d1 : (((⟨k.toArray⟩ : ByteArray).size : Int) == 64) = true := by rw [hz, beq_iff_eq]; omega
    clear hz hk ht ht2 H1 HE
    generalize hKS : (⟨k.toArray⟩ : ByteArray) = KS at *
    clear hKS
    go_enter Try.func8, Try.ntmps8
    go_wp2_with (first | (go_at_call 18; with_reducible refine (H0.out _).mono ?_; rintro e w1 ⟨rfl, rfl⟩) | (go_at_call 18; with_reducible refine (H00.out _).mono ?_; rintro e w1 ⟨rfl, rfl⟩) | (go_at_call 19; with_reducible refine (awake_any _).mono ?_; rintro e w1 ⟨rfl, hb1⟩))
    go_ret
    exact ⟨rfl, hb1⟩
  · have d0 : decide ((64 : Int) < ((⟨k.toArray⟩ : ByteArray).size : Int)) = true := by rw [hz]; simp; omega
    have d0' : decide (64 < (⟨k.toArray⟩ : ByteArray).size) = true := by rw [hz]; simp; omega
    have HS := Lib.hid (fun W => sum_any k W (by omega))
    have hls := S.sum_length k
    have H2 := Lib.hid (fun W => mac_any (S.sum k) t W (by omega) (by omega))
    rw [mac_long_key k t hk] at H2
    clear hz hk ht ht2
    generalize S.mac k t = f at *
    generalize S.sum k = x at *
    generalize hKS : (⟨k.toArray⟩ : ByteArray) = KS at *
    clear hKS
    go_enter Try.func8, Try.ntmps8
    go_wp2_with (first | (go_at_call 18; with_reducible refine (H0.out _).mono ?_; rintro e w1 ⟨rfl, rfl⟩) | (go_at_call 18; with_reducible refine (H00.out _).mono ?_; rintro e w1 ⟨rfl, rfl⟩) | (go_at_call 20; with_reducible refine (HS.out _).mono ?_; rintro e w1 ⟨rfl, hb1⟩) | (refine wpList_fresh (by rfl) 25 (by rfl) _ fresh_lab ?_; simp only [Act.put, List.setIfInBounds_toArray, List.set_cons_succ, List.set_cons_zero]; try simp only [World.size_alloc]) | ((refine wpList_store_blk (by rfl) 25 (.tmp 5) (.tmp 14) (by rfl) (0) (labA x) (by rfl) (by rfl) ((Blk.new _ _ _)) ((by rw [labA_size, labA_size, hls]; decide)) (size_lab x hls) (labA_all _) ?_; simp only [Act.put]); intro w6 b6 o6; rw [splice_all _ _ (by rw [labA_size, labA_size, hls]; decide)] at b6))
    have bel6 := o6.below (hb1.alloc hb1.size _) hb1.size
    clear o6 hb1
    generalize w1.heap.size = gX at *
    have hcX : ∀ W, Stp w6.drew W → (convert 36 9 (.slice (some ⟨gX, 0, none⟩) 32 32)).run Try.prog W = .ok (.string ⟨x.toArray⟩) W := fun W h => by
      have := conv_blk (b6.drew.at_ h) 36 Try.underlying36 32 32 (by omega)
      rwa [List.take_of_length_le (by omega)] at this
    apply wp_region_rel_below [[], [(15, some 0)], [(0, none), (16, some 1)], [(1, none), (16, some 1)], [(17, some 2), (18, some 3), (16, some 1)], [(5, none), (16, some 1)], [(20, some 5), (16, some 1)], [(1, none), (16, some 1)], [(21, some 6), (22, some 7), (16, some 1)], [(19, some 4), (23, some 8), (16, some 1)], [(16, some 1), (24, some 9)], [(25, some 10)]] [eqv _, eqv _, eqv _, eqv _, eqv _, eqv _, eqv _, eqv _, eqv _, eqv _, eqv _, eqv _] (by kernel_rfl) (by kernel_rfl)
    case hobs =>
      refine ⟨?_, ?_⟩
      · rintro L a1 w1 hT - - -   -- 0: Op.call { value (Operand.func 19), args := #[], argTypes := #[] }
        (go_simp; go_at_call 19; (with_reducible refine (awake_any _).mono ?_); rintro e w2 ⟨rfl, hb⟩; exact left_intro rfl (Stp.of hb) trivial)
      refine ⟨?_, ?_⟩
      · rintro L a1 w1 hT - - ⟨h15, -⟩   -- 1: Op.move t15
        have e15 : a1.tmps.getD 15 undef = _ := h15
        have f15 := getD_form e15
        clear h15
        (go_simp; exact left_intro rfl (Stp.refl _) trivial)
      refine ⟨?_, ?_⟩
      · rintro L a1 w1 hT - - ⟨h0, h16, -⟩   -- 2: Op.move t0
        have e0 : a1.tmps.getD 0 undef = _ := h0
        have f0 := getD_form e0
        have e16 : a1.tmps.getD 16 undef = _ := h16
        have f16 := getD_form e16
        clear h0 h16
        refine ⟨true, 16, by rfl, e16, ?_⟩; rw [if_pos rfl]
        (go_simp; exact left_intro rfl (Stp.refl _) trivial)
      refine ⟨?_, ?_⟩
      · rintro L a1 w1 hT - - ⟨h1, h16, -⟩   -- 3: Op.move t1
        have e1 : a1.tmps.getD 1 undef = _ := h1
        have f1 := getD_form e1
        have e16 : a1.tmps.getD 16 undef = _ := h16
        have f16 := getD_form e16
        clear h1 h16
        refine ⟨true, 16, by rfl, e16, ?_⟩; rw [if_pos rfl]
        (go_simp; exact left_intro rfl (Stp.refl _) trivial)
      refine ⟨?_, ?_⟩
      · rintro L a1 w1 hT - - ⟨h17, h18, h16, -⟩   -- 4: Op.call { value (Operand.func 28), args := #[t17, t18], argTypes := #[9, 9] }
        have e17 : a1.tmps.getD 17 undef = _ := h17
        have f17 := getD_form e17
        have e18 : a1.tmps.getD 18 undef = _ := h18
        have f18 := getD_form e18
        have e16 : a1.tmps.getD 16 undef = _ := h16
        have f16 := getD_form e16
        clear h17 h18 h16
        refine ⟨true, 16, by rfl, e16, ?_⟩; rw [if_pos rfl]
        (go_simp; go_at_call 28; (with_reducible refine (H1.out _).mono ?_); rintro e w2 ⟨rfl, hb⟩; exact left_intro rfl (Stp.of hb) trivial)
      refine ⟨?_, ?_⟩
      · rintro L a1 w1 hT - - ⟨h5, h16, -⟩   -- 5: Op.slice 25 t5 none none none
        have e5 : a1.tmps.getD 5 undef = _ := h5
        have f5 := getD_form e5
        have e16 : a1.tmps.getD 16 undef = _ := h16
        have f16 := getD_form e16
        clear h5 h16
        refine ⟨true, 16, by rfl, e16, ?_⟩; rw [if_pos rfl]
        (go_simp; exact left_intro rfl (Stp.refl _) trivial)
      refine ⟨?_, ?_⟩
      · rintro L a1 w1 hT - - ⟨h20, h16, -⟩   -- 6: Op.convert 36 9 t20
        have e20 : a1.tmps.getD 20 undef = _ := h20
        have f20 := getD_form e20
        have e16 : a1.tmps.getD 16 undef = _ := h16
        have f16 := getD_form e16
        clear h20 h16
        refine ⟨true, 16, by rfl, e16, ?_⟩; rw [if_pos rfl]
        have c20 := hcX w1 hT
        (go_simp; exact left_intro rfl (Stp.refl _) trivial)
      refine ⟨?_, ?_⟩
      · rintro L a1 w1 hT - - ⟨h1, h16, -⟩   -- 7: Op.move t1
        have e1 : a1.tmps.getD 1 undef = _ := h1
        have f1 := getD_form e1
        have e16 : a1.tmps.getD 16 undef = _ := h16
        have f16 := getD_form e16
        clear h1 h16
        refine ⟨true, 16, by rfl, e16, ?_⟩; rw [if_pos rfl]
        (go_simp; exact left_intro rfl (Stp.refl _) trivial)
      refine ⟨?_, ?_⟩
      · rintro L a1 w1 hT - - ⟨h21, h22, h16, -⟩   -- 8: Op.call { value (Operand.func 28), args := #[t21, t22], argTypes := #[9, 9] }
        have e21 : a1.tmps.getD 21 undef = _ := h21
        have f21 := getD_form e21
        have e22 : a1.tmps.getD 22 undef = _ := h22
        have f22 := getD_form e22
        have e16 : a1.tmps.getD 16 undef = _ := h16
        have f16 := getD_form e16
        clear h21 h22 h16
        refine ⟨true, 16, by rfl, e16, ?_⟩; rw [if_pos rfl]
        (go_simp; go_at_call 28; (with_reducible refine (H2.out _).mono ?_); rintro e w2 ⟨rfl, hb⟩; exact left_intro rfl (Stp.of hb) trivial)
      refine ⟨?_, ?_⟩
      · rintro L a1 w1 hT - - ⟨h19, h23, h16, -⟩   -- 9: Op.binOp BinOp.eql 25 t19 t23 25
        have e19 : a1.tmps.getD 19 undef = _ := h19
        have f19 := getD_form e19
        have e23 : a1.tmps.getD 23 undef = _ := h23
        have f23 := getD_form e23
        have e16 : a1.tmps.getD 16 undef = _ := h16
        have f16 := getD_form e16
        clear h19 h23 h16
        refine ⟨true, 16, by rfl, e16, ?_⟩; rw [if_pos rfl]
        exact wp_bin .eql 25 25 (.tmp 19) (.tmp 23) rfl _ _ e19 e23 guard_lab _ (HE.out _) (left_intro rfl (Stp.refl _) trivial)
      refine ⟨?_, ?_⟩
      · rintro L a1 w1 hT - - ⟨h16, h24, -⟩   -- 10: Op.pick t16 t24 (const (Value.bool false))
        have e16 : a1.tmps.getD 16 undef = _ := h16
        have f16 := getD_form e16
        have e24 : a1.tmps.getD 24 undef = _ := h24
        have f24 := getD_form e24
        clear h16 h24
        (go_simp; exact left_intro rfl (Stp.refl _) trivial)
      refine ⟨?_, ?_⟩
      · rintro L a1 w1 hT - - ⟨h25, -⟩   -- 11: Op.assign t25
        have e25 : a1.tmps.getD 25 undef = _ := h25
        have f25 := getD_form e25
        clear h25
        (go_simp; exact left_intro rfl (Stp.refl _) trivial)
      trivial
    case hmono => repeat (first | exact trivial | refine ⟨fun _ _ _ _ h => h, ?_⟩)
    case hend =>
      intro w2 hT
      rintro _ rfl _ rfl _ rfl _ rfl _ rfl _ rfl _ rfl _ rfl _ rfl _ rfl _ rfl _ rfl
      simp only [relEnd, Act.put, List.setIfInBounds_toArray, List.set_cons_succ, List.set_cons_zero]
      go_wp2
      go_ret
      exact ⟨rfl, bel6.trans (hT.mono bel6.size)⟩
set_option maxRecDepth 1000000 in
theorem keys_law : LawHolds 8 Try.f8 := by
  intro H enc W base args ds p hval hA
  rw [Try.params8] at hA hval
  obtain ⟨v0, vs0, d0, ds0, p0, q0, hargs, rfl, rfl, k0, r0⟩ := trodAll_cons hA
  obtain ⟨v1, vs1, d1, ds1, p1, q1, rfl, rfl, rfl, k1, r1⟩ := trodAll_cons r0
  obtain ⟨rfl, rfl, rfl⟩ := trodAll_nil r1
  obtain rfl : args = #[v0, v1] := by cases args; simp_all
  obtain ⟨k, rfl, _⟩ := open_text (hval 0 9 v0 rfl rfl) k0
  obtain ⟨l, rfl, _⟩ := open_text (hval 1 9 v1 rfl rfl) k1
  exact keys_walk k l W

theorem keys_lifted (os : Os) (started : os.Started) (H : Type) (enc : TypeId × Value → H) :
    ReturnsInHanded {} Try.checked os 8 .any (Rows.shaKeysSpec.pre6 enc Try.prog Try.f8 Rows.shaKeysRow.domain false) (Rows.shaKeysSpec.post enc Try.prog Try.f8 false true false false) :=
  lifted_of started (by kernel_rfl) Try.func8
    (ChangeSpec.witness6 (enc := enc) (C := Try.checked) false ⟨#[], #[.string ⟨#[]⟩, .string ⟨#[]⟩], []⟩ 8 (by kernel_rfl) (by kernel_rfl) (by kernel_rfl) (by kernel_rfl))
    rfl (by kernel_rfl) (fun ds h => by rw [Try.params8] at h; match ds, h with | [_, _], _ => rfl) (by rw [Try.params8]; exact of_decide_eq_true (by kernel_rfl)) keys_law
theorem keys_over : Rows.shaKeysRow.holds Try.pinned (OpenSpec.ofChange Rows.shaKeysSpec) :=
  OpenClaim.holds_of_wide 8 Try.f8 rfl rfl rfl rfl rfl rfl rfl ⟨rfl, rfl, rfl, rfl, rfl⟩ rfl rfl rfl rfl rfl (by kernel_rfl) Try.func8 (by kernel_rfl)
    (of_decide_eq_true (by kernel_rfl)) (by unfold Func.isWrapper; first | (rw [if_pos (by decide +kernel)]; kernel_rfl) | (rw [if_neg (by decide +kernel)]; exact ⟨rfl, rfl⟩))
    (fun os started H enc _ => keys_lifted os started H enc)
/-- The statement. -/
theorem keys_proved : Rows.ShaKeysSaid := keys_over
#print axioms keys_proved
end Go.Proofs.Ytgjmnhbkdccgpaa

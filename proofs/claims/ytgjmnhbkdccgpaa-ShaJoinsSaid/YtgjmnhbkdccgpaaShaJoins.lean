/- ShaJoins: lists of texts are summed by their lengths and bytes. No condition. -/
import Derived.Test.YtgjmnhbkdccgpaaShaAwake
import Derived.Test.YtgjmnhbkdccgpaaWRBytes
import Derived.Test.YtgjmnhbkdccgpaaOpenT
import Derived.Test.YtgjmnhbkdccgpaaRel
namespace Go.Proofs.Ytgjmnhbkdccgpaa
open Go.ChangeShapes Go.WideShapes Go.ChangeAt Go.RowKit

/-- The texts of the first k, cut. -/
def cut100 (ts : List (List UInt8)) (k : Nat) : List (List UInt8) := (ts.take k).map (·.take 100)
theorem cut100_succ (ts : List (List UInt8)) (k : Nat) (h : k < ts.length) : cut100 ts (k + 1) = cut100 ts k ++ [ts[k].take 100] := by
  unfold cut100; rw [List.take_succ_eq_append_getElem h, List.map_append]; rfl
theorem cut100_len (ts : List (List UInt8)) (k : Nat) (h : k ≤ ts.length) : (cut100 ts k).length = k := by unfold cut100; simp; omega
theorem cut100_le (ts : List (List UInt8)) (k : Nat) : ∀ t ∈ cut100 ts k, t.length ≤ 100 := by
  intro t ht
  obtain ⟨x, _, rfl⟩ := List.mem_map.1 ht
  rw [List.length_take]; omega
/-- A world that only grew. -/
def Bw (a w : World) : Prop := Below a.heap.size a w
theorem Bw.refl (a : World) : Bw a a := Below.refl _ _
theorem Bw.trans {a b c : World} (h : Bw a b) (k : Stp b c) : Bw a c := Below.trans h (Below.mono k h.size)
theorem Bw.alloc {a b : World} (h : Bw a b) (o : Obj) : Bw a (b.alloc o) := Below.alloc h h.size o
theorem Bw.drew {a b : World} (h : Bw a b) : Bw a b.drew := Below.drew h
set_option maxRecDepth 100000 in
set_option maxHeartbeats 4000000 in
theorem joins_walk (tag : UInt8) (ts : List (List UInt8)) (vt : Value) (w : World) (hts : SRead w vt (ts.map strV)) :
    Calls Try.prog 5 #[.int .u8 (tag.toNat : Int), vt] w fun e w' => e = .returned (.bool true) ∧ Below w.heap.size w w' := by
  obtain ⟨A, cT, rfl, hc1, h3⟩ := hts
  rw [List.length_map] at hc1 ⊢
  have hr1 := Row1.build w 9 [] #[] 0 rfl rfl (by omega)
  have hB0 := below_alloc1 w (.cells #[] 9)
  have h0 : ∀ (s : List UInt8) (w : World), Calls Try.prog 18 #[.string ⟨s.toArray⟩, .int .i64 100] w fun e w' => e = .returned (.string ⟨(s.take 100).toArray⟩) ∧ w = w' := fun s w => lcut_any s 100 w
  have H0 := Lib.hid h0
  clear h0
  go_enter Try.func5, Try.ntmps5
  go_wp2
  go_loopw [5, 6] (fun l i wr => ∃ (k : Nat) (vl : Value), vl = l ∧ k ≤ ts.length ∧ k ≤ 8 ∧ i = .int .i64 (k : Int) ∧ Row1 wr 9 l ((cut100 ts k).map strV) ∧ (l.ownBlock = none ∨ ∃ k, w.heap.size ≤ k ∧ l.ownBlock = some k) ∧ Below w.heap.size w wr) (fun _ i _ => 8 - (intOf i).toNat)
  case atStart => exact ⟨0, _, rfl, Nat.zero_le _, Nat.zero_le _, rfl, hr1, .inr ⟨_, by simp, rfl⟩, hB0⟩
  case round =>
    clear hr1 hB0
    obtain ⟨k, vl, rfl, hk1, hk2, rfl, hrl, hol, hB⟩ := hrel
    by_cases hlt : k < ts.length ∧ k < 8
    · obtain ⟨hlt1, hlt2⟩ := hlt
      have d1 : decide ((k : Int) < (ts.length : Int)) = true := by simp; omega
      have d2 : decide ((k : Int) < 8) = true := by simp; omega
      have h3' := h3.resolve_left (by intro e; have e2 := congrArg List.length e; rw [List.length_map] at e2; simp at e2; rw [e2] at hlt1; simp at hlt1)
      obtain ⟨g1, o1, rfl, hg1, hcell1⟩ := h3'
      have e1 := hcell1 k (strV ts[k]) (by simp [hlt1])
      have e1' := (hB.cell (p := ⟨g1, o1 + k, none⟩) hg1).trans e1
      have i0 : (0 : Int) ≤ (k : Int) := by omega
      have i1 : (k : Int) < (ts.length : Int) := by omega
      have Hs := Lib.hid (cut100_succ ts k hlt1)
      have hul := cut100_len ts k hk1
      have H0' := Lib.hid (H0.out ts[k])
      unfold strV at e1'
      clear e1 hcell1 h3
      generalize ts[k].take 100 = t at *
      generalize ts[k] = tk at *
      have hl1 : (((cut100 ts k).map strV).length + 1) * 16 ≤ 140737488355328 := by rw [List.length_map, hul]; omega
      have Hem : Hid ((cut100 ts k).map strV ++ [strV t] = (cut100 ts (k + 1)).map strV) := Lib.hid (by rw [Hs.out]; simp)
      clear hul
      go_wp2_with (first | (go_at_call 18; with_reducible refine (H0'.out _).mono ?_; rintro e w1 ⟨rfl, rfl⟩) | (at_builtin; refine wpList_append_row rfl info_str (.tmp 18) (.tmp 24) 38 rfl Try.underlying38 rfl (hrl.alloc _) ⟨wr.heap.size, 0, none⟩ 1 1 [strV t] rfl rfl (new_cells _ _ _ rfl _) (str_one [t]) hl1 ?_; intro v1 w2 hrow2 hg2 hr2))
      have hB1 := hB.alloc hB.size (.cells #[strV t] 9)
      have hs1 : w.heap.size ≤ (wr.alloc (.cells #[strV t] 9)).heap.size := by have := hB.size; simp; omega
      have hB2 := below_grown_own hB1 hs1 hg2 hol
      have hol2 := own_later hol hs1 hr2
      go_roundw
      case rel => exact ⟨k + 1, _, rfl, by omega, by omega, by go_num, by rw [← Hem.out]; exact hrow2, hol2, hB2⟩
      case measure => simp [intOf]; omega
    · have hul := cut100_len ts k hk1
      have hle := cut100_le ts k
      have hcase : (decide (k < ts.length) = false ∧ True) ∨ (decide (k < ts.length) = true ∧ decide ((k : Int) < 8) = false) := by
        by_cases hk : k < ts.length
        · exact .inr ⟨by simp; omega, by simp; omega⟩
        · exact .inl ⟨by simp; omega, trivial⟩
      have hrd := hrl.reads
      have hjl := J.joins_length_le (cut100 ts k) 100 hle
      have hjl2 : (J.joinB tag (cut100 ts k)).length ≤ 1000 := by
        have e2 : (J.joinB tag (cut100 ts k)).length = (J.joins (cut100 ts k)).length + 1 := rfl
        rw [hul] at hjl
        omega
      have HJ := Lib.hid (fun W (h : Bw wr W) => joined_any tag (cut100 ts k) vl W (hrd.at_ h) (by omega))
      have HK := Lib.hid (fun W (h : Bw wr W) => rbytes_any tag (cut100 ts k) vl W (hrd.at_ h) (by omega))
      have HS := Lib.hid (fun W => sum_any (J.joinB tag (cut100 ts k)) W (by omega))
      have hs32 := S.sum_length (J.joinB tag (cut100 ts k))
      have hN : ∀ W, Calls Try.prog 25 #[.int .u8 (tag.toNat : Int), .slice none 0 0] W fun e w' => e = .returned (.agg (labA (S.sum [tag]))) ∧ Below W.heap.size W w' := fun W => joined_any tag [] (.slice none 0 0) W ⟨none, 0, rfl, Nat.le_refl _, .inl rfl⟩ (by simp [J.joinB, J.joins])
      have HN := Lib.hid hN
      have HT := Lib.hid (fun W => sum_any [tag] W (by simp))
      have ht32 := S.sum_length [tag]
      generalize S.sum (J.joinB tag (cut100 ts k)) = s1 at *
      generalize S.sum [tag] = s2 at *
      generalize J.joinB tag (cut100 ts k) = X at *
      have E1 : ∀ w, (binOp .eql 25 (.agg (labA s1)) (.agg (labA s1))).run Try.prog w = .ok (.bool true) w := fun w => by rw [eql_lab s1 s1 hs32 hs32, beq_self_eq_true]
      have E2 : ∀ w, (binOp .eql 25 (.agg (labA s2)) (.agg (labA s2))).run Try.prog w = .ok (.bool true) w := fun w => by rw [eql_lab s2 s2 ht32 ht32, beq_self_eq_true]
      have hgd := guard_lab
      have hcv : ∀ (W : World) (b : Nat), W.cell? ⟨b, 0, none⟩ = some (.int .u8 (tag.toNat : Int)) → (convert 36 9 (.slice (some ⟨b, 0, none⟩) 1 1)).run Try.prog W = .ok (.string ⟨#[tag]⟩) W := fun W b h => by
        refine run_convert_bytes_back W _ _ 5 ⟨b, 0, none⟩ 1 [tag] Try.underlying36 Try.underlying5 Try.underlying9 (fun j hj => ?_)
        obtain rfl : j = 0 := by simpa using hj
        simpa [Addr.add] using h
      have hBw := Bw.refl wr
      have hB' := Lib.hid hB
      clear hjl hjl2 hul hle hlt h3 hN hrd hrl hol hB hs32 ht32
      rcases hcase with ⟨d1, -⟩ | ⟨d1, d2⟩
      · go_wp2_with fail
        apply wp_region_rel_below [[], [(26, some 0)], [(0, none), (27, some 1)], [(5, none), (27, some 1)], [(28, some 2), (29, some 3), (27, some 1)], [(0, none), (27, some 1)], [(5, none), (27, some 1)], [(31, some 5), (32, some 6), (27, some 1)], [(33, some 7), (27, some 1)], [(30, some 4), (34, some 8), (27, some 1)], [(27, some 1), (35, some 9)], [(36, some 10)], [(0, none), (37, some 11)], [(38, some 12), (37, some 11)], [(0, none), (37, some 11)], [(40, some 14), (37, some 11)], [(41, some 15), (37, some 11)], [(42, some 16), (37, some 11)], [(39, some 13), (43, some 17), (37, some 11)], [(37, some 11), (44, some 18)], [(45, some 19)]] [eqv _, eqv _, eqv _, eqv _, eqv _, eqv _, eqv _, eqv _, eqv _, eqv _, eqv _, eqv _, eqv _, eqv _, eqv _, blkRow 1 1 #[.int .u8 (tag.toNat : Int)] 5, eqv _, eqv _, eqv _, eqv _, eqv _] (by kernel_rfl) (by kernel_rfl)
        case hobs =>
          refine ⟨?_, ?_⟩
          · rintro L a1 w1 hT - - -   -- 0: Op.call { value (Operand.func 19), args := #[], argTypes := #[] }
            (go_simp; go_at_call 19; (with_reducible refine (awake_any _).mono ?_); rintro e w2 ⟨rfl, hb⟩; exact left_intro rfl (Stp.of hb) trivial)
          refine ⟨?_, ?_⟩
          · rintro L a1 w1 hT - - ⟨h26, -⟩   -- 1: Op.move t26
            have e26 : a1.tmps.getD 26 undef = _ := h26
            have f26 := getD_form e26
            clear h26
            (go_simp; exact left_intro rfl (Stp.refl _) trivial)
          refine ⟨?_, ?_⟩
          · rintro L a1 w1 hT - - ⟨h0, h27, -⟩   -- 2: Op.move t0
            have e0 : a1.tmps.getD 0 undef = _ := h0
            have f0 := getD_form e0
            have e27 : a1.tmps.getD 27 undef = _ := h27
            have f27 := getD_form e27
            clear h0 h27
            refine ⟨true, 27, by rfl, e27, ?_⟩; rw [if_pos rfl]
            (go_simp; exact left_intro rfl (Stp.refl _) trivial)
          refine ⟨?_, ?_⟩
          · rintro L a1 w1 hT - - ⟨h5, h27, -⟩   -- 3: Op.move t5
            have e5 : a1.tmps.getD 5 undef = _ := h5
            have f5 := getD_form e5
            have e27 : a1.tmps.getD 27 undef = _ := h27
            have f27 := getD_form e27
            clear h5 h27
            refine ⟨true, 27, by rfl, e27, ?_⟩; rw [if_pos rfl]
            (go_simp; exact left_intro rfl (Stp.refl _) trivial)
          refine ⟨?_, ?_⟩
          · rintro L a1 w1 hT - - ⟨h28, h29, h27, -⟩   -- 4: Op.call { value (Operand.func 25), args := #[t28, t29], argTypes := #[5, 38] }
            have e28 : a1.tmps.getD 28 undef = _ := h28
            have f28 := getD_form e28
            have e29 : a1.tmps.getD 29 undef = _ := h29
            have f29 := getD_form e29
            have e27 : a1.tmps.getD 27 undef = _ := h27
            have f27 := getD_form e27
            clear h28 h29 h27
            refine ⟨true, 27, by rfl, e27, ?_⟩; rw [if_pos rfl]
            (go_simp; go_at_call 25; (with_reducible refine (HJ.out _ (Bw.trans hBw.drew hT)).mono ?_); rintro e w2 ⟨rfl, hb⟩; exact left_intro rfl (Stp.of hb) trivial)
          refine ⟨?_, ?_⟩
          · rintro L a1 w1 hT - - ⟨h0, h27, -⟩   -- 5: Op.move t0
            have e0 : a1.tmps.getD 0 undef = _ := h0
            have f0 := getD_form e0
            have e27 : a1.tmps.getD 27 undef = _ := h27
            have f27 := getD_form e27
            clear h0 h27
            refine ⟨true, 27, by rfl, e27, ?_⟩; rw [if_pos rfl]
            (go_simp; exact left_intro rfl (Stp.refl _) trivial)
          refine ⟨?_, ?_⟩
          · rintro L a1 w1 hT - - ⟨h5, h27, -⟩   -- 6: Op.move t5
            have e5 : a1.tmps.getD 5 undef = _ := h5
            have f5 := getD_form e5
            have e27 : a1.tmps.getD 27 undef = _ := h27
            have f27 := getD_form e27
            clear h5 h27
            refine ⟨true, 27, by rfl, e27, ?_⟩; rw [if_pos rfl]
            (go_simp; exact left_intro rfl (Stp.refl _) trivial)
          refine ⟨?_, ?_⟩
          · rintro L a1 w1 hT - - ⟨h31, h32, h27, -⟩   -- 7: Op.call { value (Operand.func 26), args := #[t31, t32], argTypes := #[5, 38] }
            have e31 : a1.tmps.getD 31 undef = _ := h31
            have f31 := getD_form e31
            have e32 : a1.tmps.getD 32 undef = _ := h32
            have f32 := getD_form e32
            have e27 : a1.tmps.getD 27 undef = _ := h27
            have f27 := getD_form e27
            clear h31 h32 h27
            refine ⟨true, 27, by rfl, e27, ?_⟩; rw [if_pos rfl]
            (go_simp; go_at_call 26; (with_reducible refine (HK.out _ (Bw.trans hBw.drew hT)).mono ?_); rintro e w2 ⟨rfl, hb⟩; exact left_intro rfl (Stp.of hb) trivial)
          refine ⟨?_, ?_⟩
          · rintro L a1 w1 hT - - ⟨h33, h27, -⟩   -- 8: Op.call { value (Operand.func 20), args := #[t33], argTypes := #[9] }
            have e33 : a1.tmps.getD 33 undef = _ := h33
            have f33 := getD_form e33
            have e27 : a1.tmps.getD 27 undef = _ := h27
            have f27 := getD_form e27
            clear h33 h27
            refine ⟨true, 27, by rfl, e27, ?_⟩; rw [if_pos rfl]
            (go_simp; go_at_call 20; (with_reducible refine (HS.out _).mono ?_); rintro e w2 ⟨rfl, hb⟩; exact left_intro rfl (Stp.of hb) trivial)
          refine ⟨?_, ?_⟩
          · rintro L a1 w1 hT - - ⟨h30, h34, h27, -⟩   -- 9: Op.binOp BinOp.eql 25 t30 t34 25
            have e30 : a1.tmps.getD 30 undef = _ := h30
            have f30 := getD_form e30
            have e34 : a1.tmps.getD 34 undef = _ := h34
            have f34 := getD_form e34
            have e27 : a1.tmps.getD 27 undef = _ := h27
            have f27 := getD_form e27
            clear h30 h34 h27
            refine ⟨true, 27, by rfl, e27, ?_⟩; rw [if_pos rfl]
            exact wp_bin .eql 25 25 (.tmp 30) (.tmp 34) rfl _ _ e30 e34 hgd _ (E1 _) (left_intro rfl (Stp.refl _) trivial)
          refine ⟨?_, ?_⟩
          · rintro L a1 w1 hT - - ⟨h27, h35, -⟩   -- 10: Op.pick t27 t35 (const (Value.bool false))
            have e27 : a1.tmps.getD 27 undef = _ := h27
            have f27 := getD_form e27
            have e35 : a1.tmps.getD 35 undef = _ := h35
            have f35 := getD_form e35
            clear h27 h35
            (go_simp; exact left_intro rfl (Stp.refl _) trivial)
          refine ⟨?_, ?_⟩
          · rintro L a1 w1 hT - - ⟨h36, -⟩   -- 11: Op.move t36
            have e36 : a1.tmps.getD 36 undef = _ := h36
            have f36 := getD_form e36
            clear h36
            (go_simp; exact left_intro rfl (Stp.refl _) trivial)
          refine ⟨?_, ?_⟩
          · rintro L a1 w1 hT - - ⟨h0, h37, -⟩   -- 12: Op.move t0
            have e0 : a1.tmps.getD 0 undef = _ := h0
            have f0 := getD_form e0
            have e37 : a1.tmps.getD 37 undef = _ := h37
            have f37 := getD_form e37
            clear h0 h37
            refine ⟨true, 37, by rfl, e37, ?_⟩; rw [if_pos rfl]
            (go_simp; exact left_intro rfl (Stp.refl _) trivial)
          refine ⟨?_, ?_⟩
          · rintro L a1 w1 hT - - ⟨h38, h37, -⟩   -- 13: Op.call { value (Operand.func 25), args := #[t38, const (Value.slice none 0 0)], argTypes := #[5, 38] }
            have e38 : a1.tmps.getD 38 undef = _ := h38
            have f38 := getD_form e38
            have e37 : a1.tmps.getD 37 undef = _ := h37
            have f37 := getD_form e37
            clear h38 h37
            refine ⟨true, 37, by rfl, e37, ?_⟩; rw [if_pos rfl]
            (go_simp; go_at_call 25; (with_reducible refine (HN.out _).mono ?_); rintro e w2 ⟨rfl, hb⟩; exact left_intro rfl (Stp.of hb) trivial)
          refine ⟨?_, ?_⟩
          · rintro L a1 w1 hT - - ⟨h0, h37, -⟩   -- 14: Op.move t0
            have e0 : a1.tmps.getD 0 undef = _ := h0
            have f0 := getD_form e0
            have e37 : a1.tmps.getD 37 undef = _ := h37
            have f37 := getD_form e37
            clear h0 h37
            refine ⟨true, 37, by rfl, e37, ?_⟩; rw [if_pos rfl]
            (go_simp; exact left_intro rfl (Stp.refl _) trivial)
          refine ⟨?_, ?_⟩
          · rintro L a1 w1 hT - - ⟨h40, h37, -⟩   -- 15: Op.buildSlice 36 1 #[(0, t40)]
            have e40 : a1.tmps.getD 40 undef = _ := h40
            have f40 := getD_form e40
            have e37 : a1.tmps.getD 37 undef = _ := h37
            have f37 := getD_form e37
            clear h40 h37
            refine ⟨true, 37, by rfl, e37, ?_⟩; rw [if_pos rfl]
            (go_simp; exact left_intro (T := Stp) (Ph := fun _ _ => True) (blkRow_new _ _ _ _ _) (Stp.alloc _ _) trivial)
          refine ⟨?_, ?_⟩
          · rintro L a1 w1 hT - - ⟨h41, h37, -⟩   -- 16: Op.convert 36 9 t41
            obtain ⟨b41, e41, B41⟩ : blkRow 1 1 #[.int .u8 (tag.toNat : Int)] 5 (a1.tmps.getD 41 undef) w1 := h41
            have f41 := getD_form e41
            have c41 := hcv w1 b41 (B41.cellv rfl)
            have e37 : a1.tmps.getD 37 undef = _ := h37
            have f37 := getD_form e37
            clear h37
            refine ⟨true, 37, by rfl, e37, ?_⟩; rw [if_pos rfl]
            (go_simp; exact left_intro rfl (Stp.refl _) trivial)
          refine ⟨?_, ?_⟩
          · rintro L a1 w1 hT - - ⟨h42, h37, -⟩   -- 17: Op.call { value (Operand.func 20), args := #[t42], argTypes := #[9] }
            have e42 : a1.tmps.getD 42 undef = _ := h42
            have f42 := getD_form e42
            have e37 : a1.tmps.getD 37 undef = _ := h37
            have f37 := getD_form e37
            clear h42 h37
            refine ⟨true, 37, by rfl, e37, ?_⟩; rw [if_pos rfl]
            (go_simp; go_at_call 20; (with_reducible refine (HT.out _).mono ?_); rintro e w2 ⟨rfl, hb⟩; exact left_intro rfl (Stp.of hb) trivial)
          refine ⟨?_, ?_⟩
          · rintro L a1 w1 hT - - ⟨h39, h43, h37, -⟩   -- 18: Op.binOp BinOp.eql 25 t39 t43 25
            have e39 : a1.tmps.getD 39 undef = _ := h39
            have f39 := getD_form e39
            have e43 : a1.tmps.getD 43 undef = _ := h43
            have f43 := getD_form e43
            have e37 : a1.tmps.getD 37 undef = _ := h37
            have f37 := getD_form e37
            clear h39 h43 h37
            refine ⟨true, 37, by rfl, e37, ?_⟩; rw [if_pos rfl]
            exact wp_bin .eql 25 25 (.tmp 39) (.tmp 43) rfl _ _ e39 e43 hgd _ (E2 _) (left_intro rfl (Stp.refl _) trivial)
          refine ⟨?_, ?_⟩
          · rintro L a1 w1 hT - - ⟨h37, h44, -⟩   -- 19: Op.pick t37 t44 (const (Value.bool false))
            have e37 : a1.tmps.getD 37 undef = _ := h37
            have f37 := getD_form e37
            have e44 : a1.tmps.getD 44 undef = _ := h44
            have f44 := getD_form e44
            clear h37 h44
            (go_simp; exact left_intro rfl (Stp.refl _) trivial)
          refine ⟨?_, ?_⟩
          · rintro L a1 w1 hT - - ⟨h45, -⟩   -- 20: Op.assign t45
            have e45 : a1.tmps.getD 45 undef = _ := h45
            have f45 := getD_form e45
            clear h45
            (go_simp; exact left_intro rfl (Stp.refl _) trivial)
          trivial
        case hmono => repeat (first | exact trivial | refine ⟨fun _ _ _ _ h => h, ?_⟩ | refine ⟨mono_blkRow _ _ _ _, ?_⟩)
        case hend =>
          intro w2 hT
          rintro _ rfl _ rfl _ rfl _ rfl _ rfl _ rfl _ rfl _ rfl _ rfl _ rfl _ rfl _ rfl _ rfl _ rfl _ rfl v41 - _ rfl _ rfl _ rfl _ rfl _ rfl
          simp only [relEnd, Act.put, List.setIfInBounds_toArray, List.set_cons_succ, List.set_cons_zero]
          go_wp2
          go_ret
          exact ⟨rfl, hB'.out.trans (hT.mono hB'.out.size)⟩
      · go_wp2_with fail
        apply wp_region_rel_below [[], [(26, some 0)], [(0, none), (27, some 1)], [(5, none), (27, some 1)], [(28, some 2), (29, some 3), (27, some 1)], [(0, none), (27, some 1)], [(5, none), (27, some 1)], [(31, some 5), (32, some 6), (27, some 1)], [(33, some 7), (27, some 1)], [(30, some 4), (34, some 8), (27, some 1)], [(27, some 1), (35, some 9)], [(36, some 10)], [(0, none), (37, some 11)], [(38, some 12), (37, some 11)], [(0, none), (37, some 11)], [(40, some 14), (37, some 11)], [(41, some 15), (37, some 11)], [(42, some 16), (37, some 11)], [(39, some 13), (43, some 17), (37, some 11)], [(37, some 11), (44, some 18)], [(45, some 19)]] [eqv _, eqv _, eqv _, eqv _, eqv _, eqv _, eqv _, eqv _, eqv _, eqv _, eqv _, eqv _, eqv _, eqv _, eqv _, blkRow 1 1 #[.int .u8 (tag.toNat : Int)] 5, eqv _, eqv _, eqv _, eqv _, eqv _] (by kernel_rfl) (by kernel_rfl)
        case hobs =>
          refine ⟨?_, ?_⟩
          · rintro L a1 w1 hT - - -   -- 0: Op.call { value (Operand.func 19), args := #[], argTypes := #[] }
            (go_simp; go_at_call 19; (with_reducible refine (awake_any _).mono ?_); rintro e w2 ⟨rfl, hb⟩; exact left_intro rfl (Stp.of hb) trivial)
          refine ⟨?_, ?_⟩
          · rintro L a1 w1 hT - - ⟨h26, -⟩   -- 1: Op.move t26
            have e26 : a1.tmps.getD 26 undef = _ := h26
            have f26 := getD_form e26
            clear h26
            (go_simp; exact left_intro rfl (Stp.refl _) trivial)
          refine ⟨?_, ?_⟩
          · rintro L a1 w1 hT - - ⟨h0, h27, -⟩   -- 2: Op.move t0
            have e0 : a1.tmps.getD 0 undef = _ := h0
            have f0 := getD_form e0
            have e27 : a1.tmps.getD 27 undef = _ := h27
            have f27 := getD_form e27
            clear h0 h27
            refine ⟨true, 27, by rfl, e27, ?_⟩; rw [if_pos rfl]
            (go_simp; exact left_intro rfl (Stp.refl _) trivial)
          refine ⟨?_, ?_⟩
          · rintro L a1 w1 hT - - ⟨h5, h27, -⟩   -- 3: Op.move t5
            have e5 : a1.tmps.getD 5 undef = _ := h5
            have f5 := getD_form e5
            have e27 : a1.tmps.getD 27 undef = _ := h27
            have f27 := getD_form e27
            clear h5 h27
            refine ⟨true, 27, by rfl, e27, ?_⟩; rw [if_pos rfl]
            (go_simp; exact left_intro rfl (Stp.refl _) trivial)
          refine ⟨?_, ?_⟩
          · rintro L a1 w1 hT - - ⟨h28, h29, h27, -⟩   -- 4: Op.call { value (Operand.func 25), args := #[t28, t29], argTypes := #[5, 38] }
            have e28 : a1.tmps.getD 28 undef = _ := h28
            have f28 := getD_form e28
            have e29 : a1.tmps.getD 29 undef = _ := h29
            have f29 := getD_form e29
            have e27 : a1.tmps.getD 27 undef = _ := h27
            have f27 := getD_form e27
            clear h28 h29 h27
            refine ⟨true, 27, by rfl, e27, ?_⟩; rw [if_pos rfl]
            (go_simp; go_at_call 25; (with_reducible refine (HJ.out _ (Bw.trans hBw.drew hT)).mono ?_); rintro e w2 ⟨rfl, hb⟩; exact left_intro rfl (Stp.of hb) trivial)
          refine ⟨?_, ?_⟩
          · rintro L a1 w1 hT - - ⟨h0, h27, -⟩   -- 5: Op.move t0
            have e0 : a1.tmps.getD 0 undef = _ := h0
            have f0 := getD_form e0
            have e27 : a1.tmps.getD 27 undef = _ := h27
            have f27 := getD_form e27
            clear h0 h27
            refine ⟨true, 27, by rfl, e27, ?_⟩; rw [if_pos rfl]
            (go_simp; exact left_intro rfl (Stp.refl _) trivial)
          refine ⟨?_, ?_⟩
          · rintro L a1 w1 hT - - ⟨h5, h27, -⟩   -- 6: Op.move t5
            have e5 : a1.tmps.getD 5 undef = _ := h5
            have f5 := getD_form e5
            have e27 : a1.tmps.getD 27 undef = _ := h27
            have f27 := getD_form e27
            clear h5 h27
            refine ⟨true, 27, by rfl, e27, ?_⟩; rw [if_pos rfl]
            (go_simp; exact left_intro rfl (Stp.refl _) trivial)
          refine ⟨?_, ?_⟩
          · rintro L a1 w1 hT - - ⟨h31, h32, h27, -⟩   -- 7: Op.call { value (Operand.func 26), args := #[t31, t32], argTypes := #[5, 38] }
            have e31 : a1.tmps.getD 31 undef = _ := h31
            have f31 := getD_form e31
            have e32 : a1.tmps.getD 32 undef = _ := h32
            have f32 := getD_form e32
            have e27 : a1.tmps.getD 27 undef = _ := h27
            have f27 := getD_form e27
            clear h31 h32 h27
            refine ⟨true, 27, by rfl, e27, ?_⟩; rw [if_pos rfl]
            (go_simp; go_at_call 26; (with_reducible refine (HK.out _ (Bw.trans hBw.drew hT)).mono ?_); rintro e w2 ⟨rfl, hb⟩; exact left_intro rfl (Stp.of hb) trivial)
          refine ⟨?_, ?_⟩
          · rintro L a1 w1 hT - - ⟨h33, h27, -⟩   -- 8: Op.call { value (Operand.func 20), args := #[t33], argTypes := #[9] }
            have e33 : a1.tmps.getD 33 undef = _ := h33
            have f33 := getD_form e33
            have e27 : a1.tmps.getD 27 undef = _ := h27
            have f27 := getD_form e27
            clear h33 h27
            refine ⟨true, 27, by rfl, e27, ?_⟩; rw [if_pos rfl]
            (go_simp; go_at_call 20; (with_reducible refine (HS.out _).mono ?_); rintro e w2 ⟨rfl, hb⟩; exact left_intro rfl (Stp.of hb) trivial)
          refine ⟨?_, ?_⟩
          · rintro L a1 w1 hT - - ⟨h30, h34, h27, -⟩   -- 9: Op.binOp BinOp.eql 25 t30 t34 25
            have e30 : a1.tmps.getD 30 undef = _ := h30
            have f30 := getD_form e30
            have e34 : a1.tmps.getD 34 undef = _ := h34
            have f34 := getD_form e34
            have e27 : a1.tmps.getD 27 undef = _ := h27
            have f27 := getD_form e27
            clear h30 h34 h27
            refine ⟨true, 27, by rfl, e27, ?_⟩; rw [if_pos rfl]
            exact wp_bin .eql 25 25 (.tmp 30) (.tmp 34) rfl _ _ e30 e34 hgd _ (E1 _) (left_intro rfl (Stp.refl _) trivial)
          refine ⟨?_, ?_⟩
          · rintro L a1 w1 hT - - ⟨h27, h35, -⟩   -- 10: Op.pick t27 t35 (const (Value.bool false))
            have e27 : a1.tmps.getD 27 undef = _ := h27
            have f27 := getD_form e27
            have e35 : a1.tmps.getD 35 undef = _ := h35
            have f35 := getD_form e35
            clear h27 h35
            (go_simp; exact left_intro rfl (Stp.refl _) trivial)
          refine ⟨?_, ?_⟩
          · rintro L a1 w1 hT - - ⟨h36, -⟩   -- 11: Op.move t36
            have e36 : a1.tmps.getD 36 undef = _ := h36
            have f36 := getD_form e36
            clear h36
            (go_simp; exact left_intro rfl (Stp.refl _) trivial)
          refine ⟨?_, ?_⟩
          · rintro L a1 w1 hT - - ⟨h0, h37, -⟩   -- 12: Op.move t0
            have e0 : a1.tmps.getD 0 undef = _ := h0
            have f0 := getD_form e0
            have e37 : a1.tmps.getD 37 undef = _ := h37
            have f37 := getD_form e37
            clear h0 h37
            refine ⟨true, 37, by rfl, e37, ?_⟩; rw [if_pos rfl]
            (go_simp; exact left_intro rfl (Stp.refl _) trivial)
          refine ⟨?_, ?_⟩
          · rintro L a1 w1 hT - - ⟨h38, h37, -⟩   -- 13: Op.call { value (Operand.func 25), args := #[t38, const (Value.slice none 0 0)], argTypes := #[5, 38] }
            have e38 : a1.tmps.getD 38 undef = _ := h38
            have f38 := getD_form e38
            have e37 : a1.tmps.getD 37 undef = _ := h37
            have f37 := getD_form e37
            clear h38 h37
            refine ⟨true, 37, by rfl, e37, ?_⟩; rw [if_pos rfl]
            (go_simp; go_at_call 25; (with_reducible refine (HN.out _).mono ?_); rintro e w2 ⟨rfl, hb⟩; exact left_intro rfl (Stp.of hb) trivial)
          refine ⟨?_, ?_⟩
          · rintro L a1 w1 hT - - ⟨h0, h37, -⟩   -- 14: Op.move t0
            have e0 : a1.tmps.getD 0 undef = _ := h0
            have f0 := getD_form e0
            have e37 : a1.tmps.getD 37 undef = _ := h37
            have f37 := getD_form e37
            clear h0 h37
            refine ⟨true, 37, by rfl, e37, ?_⟩; rw [if_pos rfl]
            (go_simp; exact left_intro rfl (Stp.refl _) trivial)
          refine ⟨?_, ?_⟩
          · rintro L a1 w1 hT - - ⟨h40, h37, -⟩   -- 15: Op.buildSlice 36 1 #[(0, t40)]
            have e40 : a1.tmps.getD 40 undef = _ := h40
            have f40 := getD_form e40
            have e37 : a1.tmps.getD 37 undef = _ := h37
            have f37 := getD_form e37
            clear h40 h37
            refine ⟨true, 37, by rfl, e37, ?_⟩; rw [if_pos rfl]
            (go_simp; exact left_intro (T := Stp) (Ph := fun _ _ => True) (blkRow_new _ _ _ _ _) (Stp.alloc _ _) trivial)
          refine ⟨?_, ?_⟩
          · rintro L a1 w1 hT - - ⟨h41, h37, -⟩   -- 16: Op.convert 36 9 t41
            obtain ⟨b41, e41, B41⟩ : blkRow 1 1 #[.int .u8 (tag.toNat : Int)] 5 (a1.tmps.getD 41 undef) w1 := h41
            have f41 := getD_form e41
            have c41 := hcv w1 b41 (B41.cellv rfl)
            have e37 : a1.tmps.getD 37 undef = _ := h37
            have f37 := getD_form e37
            clear h37
            refine ⟨true, 37, by rfl, e37, ?_⟩; rw [if_pos rfl]
            (go_simp; exact left_intro rfl (Stp.refl _) trivial)
          refine ⟨?_, ?_⟩
          · rintro L a1 w1 hT - - ⟨h42, h37, -⟩   -- 17: Op.call { value (Operand.func 20), args := #[t42], argTypes := #[9] }
            have e42 : a1.tmps.getD 42 undef = _ := h42
            have f42 := getD_form e42
            have e37 : a1.tmps.getD 37 undef = _ := h37
            have f37 := getD_form e37
            clear h42 h37
            refine ⟨true, 37, by rfl, e37, ?_⟩; rw [if_pos rfl]
            (go_simp; go_at_call 20; (with_reducible refine (HT.out _).mono ?_); rintro e w2 ⟨rfl, hb⟩; exact left_intro rfl (Stp.of hb) trivial)
          refine ⟨?_, ?_⟩
          · rintro L a1 w1 hT - - ⟨h39, h43, h37, -⟩   -- 18: Op.binOp BinOp.eql 25 t39 t43 25
            have e39 : a1.tmps.getD 39 undef = _ := h39
            have f39 := getD_form e39
            have e43 : a1.tmps.getD 43 undef = _ := h43
            have f43 := getD_form e43
            have e37 : a1.tmps.getD 37 undef = _ := h37
            have f37 := getD_form e37
            clear h39 h43 h37
            refine ⟨true, 37, by rfl, e37, ?_⟩; rw [if_pos rfl]
            exact wp_bin .eql 25 25 (.tmp 39) (.tmp 43) rfl _ _ e39 e43 hgd _ (E2 _) (left_intro rfl (Stp.refl _) trivial)
          refine ⟨?_, ?_⟩
          · rintro L a1 w1 hT - - ⟨h37, h44, -⟩   -- 19: Op.pick t37 t44 (const (Value.bool false))
            have e37 : a1.tmps.getD 37 undef = _ := h37
            have f37 := getD_form e37
            have e44 : a1.tmps.getD 44 undef = _ := h44
            have f44 := getD_form e44
            clear h37 h44
            (go_simp; exact left_intro rfl (Stp.refl _) trivial)
          refine ⟨?_, ?_⟩
          · rintro L a1 w1 hT - - ⟨h45, -⟩   -- 20: Op.assign t45
            have e45 : a1.tmps.getD 45 undef = _ := h45
            have f45 := getD_form e45
            clear h45
            (go_simp; exact left_intro rfl (Stp.refl _) trivial)
          trivial
        case hmono => repeat (first | exact trivial | refine ⟨fun _ _ _ _ h => h, ?_⟩ | refine ⟨mono_blkRow _ _ _ _, ?_⟩)
        case hend =>
          intro w2 hT
          rintro _ rfl _ rfl _ rfl _ rfl _ rfl _ rfl _ rfl _ rfl _ rfl _ rfl _ rfl _ rfl _ rfl _ rfl _ rfl v41 - _ rfl _ rfl _ rfl _ rfl _ rfl
          simp only [relEnd, Act.put, List.setIfInBounds_toArray, List.set_cons_succ, List.set_cons_zero]
          go_wp2
          go_ret
          exact ⟨rfl, hB'.out.trans (hT.mono hB'.out.size)⟩
set_option maxRecDepth 1000000 in
theorem joins_law : LawHolds 5 Try.f5 := by
  intro H enc W base args ds p hval hA
  rw [Try.params5] at hA hval
  obtain ⟨v0, vs0, d0, ds0, p0, q0, hargs, rfl, rfl, k0, r0⟩ := trodAll_cons hA
  obtain ⟨v1, vs1, d1, ds1, p1, q1, rfl, rfl, rfl, k1, r1⟩ := trodAll_cons r0
  obtain ⟨rfl, rfl, rfl⟩ := trodAll_nil r1
  obtain rfl : args = #[v0, v1] := by cases args; simp_all
  obtain ⟨b, rfl⟩ := open_byte (hval 0 5 v0 rfl rfl) k0
  obtain ⟨ts, hts, _, _⟩ := open_texts (hval 1 38 v1 rfl rfl) k1
  exact joins_walk b ts v1 W hts

theorem joins_lifted (os : Os) (started : os.Started) (H : Type) (enc : TypeId × Value → H) :
    ReturnsInHanded {} Try.checked os 5 .any (Rows.shaJoinsSpec.pre6 enc Try.prog Try.f5 Rows.shaJoinsRow.domain false) (Rows.shaJoinsSpec.post enc Try.prog Try.f5 false true false false) :=
  lifted_of started (by kernel_rfl) Try.func5
    (ChangeSpec.witness6 (enc := enc) (C := Try.checked) false ⟨#[], #[.int .u8 0, .slice none 0 0], []⟩ 8 (by kernel_rfl) (by kernel_rfl) (by kernel_rfl) (by kernel_rfl))
    rfl (by kernel_rfl) (fun ds h => by rw [Try.params5] at h; match ds, h with | [_, _], _ => rfl) (by rw [Try.params5]; exact of_decide_eq_true (by kernel_rfl)) joins_law
theorem joins_over : Rows.shaJoinsRow.holds Try.pinned (OpenSpec.ofChange Rows.shaJoinsSpec) :=
  OpenClaim.holds_of_wide 5 Try.f5 rfl rfl rfl rfl rfl rfl rfl ⟨rfl, rfl, rfl, rfl, rfl⟩ rfl rfl rfl rfl rfl (by kernel_rfl) Try.func5 (by kernel_rfl)
    (of_decide_eq_true (by kernel_rfl)) (by unfold Func.isWrapper; first | (rw [if_pos (by decide +kernel)]; kernel_rfl) | (rw [if_neg (by decide +kernel)]; exact ⟨rfl, rfl⟩))
    (fun os started H enc _ => joins_lifted os started H enc)
/-- The statement. -/
theorem joins_proved : Rows.ShaJoinsSaid := joins_over
#print axioms joins_proved
end Go.Proofs.Ytgjmnhbkdccgpaa

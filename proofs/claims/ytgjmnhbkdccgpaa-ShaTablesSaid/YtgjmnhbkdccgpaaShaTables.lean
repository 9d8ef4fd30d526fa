/- ShaTables: the tables are the primes' roots. No condition. -/
import Derived.Test.YtgjmnhbkdccgpaaShaAwake
import Derived.Test.YtgjmnhbkdccgpaaWTables
import Derived.Test.YtgjmnhbkdccgpaaRel
namespace Go.Proofs.Ytgjmnhbkdccgpaa
open Go.ChangeShapes Go.WideShapes Go.ChangeAt Go.RowKit

theorem index_w8 (l : List (BitVec 32)) (hl : l.length = 8) (k : Nat) (hk : k < 8) (w : World) : (Instr.index 32 (.agg (wsA l)) (.int .i64 (k : Int))).run Try.prog w = .ok (.int .u32 (((l.getD k 0#32).toNat : Nat) : Int)) w := by
  have h1 : (isAgg 31).run Try.prog w = .ok false w := by kernel_rfl
  have h2 : (sizeOf 31).run Try.prog w = .ok 1 w := by kernel_rfl
  have h3 : 0 ≤ (k : Int) ∧ (k : Int) < 8 := by omega
  have h4 := wsA_get l k (by omega)
  unfold Instr.index
  simp only [asIntOf, Sem.run_bind, Sem.run_pure, Result.andThen_ok, run_underlying Try.underlying32]
  rw [show ((8 : Nat) : Int) = 8 from rfl, if_pos h3]
  simp only [part, Sem.run_bind, h1, h2, Result.andThen_ok, Int.toNat_natCast, Nat.mul_one, Bool.false_eq_true, if_false, h4, Sem.run_pure]
  rfl
theorem index_w64 (l : List (BitVec 32)) (hl : l.length = 64) (k : Nat) (hk : k < 64) (w : World) : (Instr.index 34 (.agg (wsA l)) (.int .i64 (k : Int))).run Try.prog w = .ok (.int .u32 (((l.getD k 0#32).toNat : Nat) : Int)) w := by
  have h1 : (isAgg 31).run Try.prog w = .ok false w := by kernel_rfl
  have h2 : (sizeOf 31).run Try.prog w = .ok 1 w := by kernel_rfl
  have h3 : 0 ≤ (k : Int) ∧ (k : Int) < 64 := by omega
  have h4 := wsA_get l k (by omega)
  unfold Instr.index
  simp only [asIntOf, Sem.run_bind, Sem.run_pure, Result.andThen_ok, run_underlying Try.underlying34]
  rw [show ((64 : Nat) : Int) = 64 from rfl, if_pos h3]
  simp only [part, Sem.run_bind, h1, h2, Result.andThen_ok, Int.toNat_natCast, Nat.mul_one, Bool.false_eq_true, if_false, h4, Sem.run_pure]
  rfl
namespace T
theorem hL_at (k : Nat) (h : k < 8) : hL[k]? = some (S.begin.list.getD k 0#32).toNat := by
  rw [hL, List.getElem?_map, List.getElem?_range h]; rfl
theorem kL_at (k : Nat) (h : k < 64) : kL[k]? = some (S.steps.getD k 0#32).toNat := by
  rw [kL, List.getElem?_map, List.getElem?_range h]; rfl
end T
theorem row_cell32 {w : World} {g n c : Nat} {xs : List Nat} (h : Row1 w 31 (.slice (some ⟨g, 0, none⟩) n c) (xs.map u32V)) (k a : Nat) (hk : xs[k]? = some a) : w.cell? ⟨g, k, none⟩ = some (.int .u32 (a : Int)) :=
  h.cell rfl k _ (by rw [List.getElem?_map, hk]; rfl)
set_option maxRecDepth 100000 in
set_option maxHeartbeats 4000000 in
theorem tables_walk (c : UInt8) (w : World) :
    Calls Try.prog 4 #[.int .u8 (c.toNat : Int)] w fun e w' => e = .returned (.bool true) ∧ Below w.heap.size w w' := by
  have HS0 := Lib.hid (fun W => sum_any [] W (by simp))
  have HR0 := Lib.hid (fun W => rsum_any [] W (by simp))
  have hs0 := S.sum_length []
  have HS1 := Lib.hid (fun W => sum_any [c] W (by simp))
  have HR1 := Lib.hid (fun W => rsum_any [c] W (by simp))
  have hs1 := S.sum_length [c]
  generalize S.sum [] = s0 at *
  generalize S.sum [c] = s1 at *
  have E0 : ∀ w, (binOp .eql 25 (.agg (labA s0)) (.agg (labA s0))).run Try.prog w = .ok (.bool true) w := fun w => by rw [eql_lab s0 s0 hs0 hs0, beq_self_eq_true]
  have E1 : ∀ w, (binOp .eql 25 (.agg (labA s1)) (.agg (labA s1))).run Try.prog w = .ok (.bool true) w := fun w => by rw [eql_lab s1 s1 hs1 hs1, beq_self_eq_true]
  have hcv : ∀ (W : World) (b : Nat), W.cell? ⟨b, 0, none⟩ = some (.int .u8 (c.toNat : Int)) → (convert 36 9 (.slice (some ⟨b, 0, none⟩) 1 1)).run Try.prog W = .ok (.string ⟨#[c]⟩) W := fun W b h => by
    refine run_convert_bytes_back W _ _ 5 ⟨b, 0, none⟩ 1 [c] Try.underlying36 Try.underlying5 Try.underlying9 (fun j hj => ?_)
    obtain rfl : j = 0 := by simpa using hj
    simpa [Addr.add] using h
  have HI8 := Lib.hid (fun k hk => index_w8 S.begin.list rfl k hk)
  have HI64 := Lib.hid (fun k hk => index_w64 S.steps rfl k hk)
  have A8 := Lib.hid T.hL_at
  have A64 := Lib.hid T.kL_at
  clear hs0 hs1
  go_enter Try.func4, Try.ntmps4
  go_wp2_with (first | (go_at_call 22; with_reducible refine (tables_any _).mono ?_; rintro e w1 ⟨vh, vk, rfl, hh, hk, hb1⟩; obtain ⟨gh, ch, rfl, hch⟩ := hh.form_len (n := 8) (by rw [List.length_map, T.hL_length]) (by omega); obtain ⟨gk, ck, rfl, hck⟩ := hk.form_len (n := 64) (by rw [List.length_map, T.kL_length]) (by omega)) | (go_at_call 23; with_reducible refine (rbegin_any _).mono ?_; rintro e w2 ⟨rfl, hb2⟩))
  replace hh := hh.at_ hb2
  replace hk := hk.at_ hb2
  have hB2 := hb1.trans (hb2.mono hb1.size)
  clear hb1 hb2
  generalize S.begin.list = Bg at *
  go_loop [22] (fun v => ∃ k : Nat, k ≤ 8 ∧ v = .int .i64 (k : Int)) (fun v => 8 - (intOf v).toNat)
  case atStart => exact ⟨0, by omega, rfl⟩
  case round =>
    obtain ⟨k, hk8, rfl⟩ := hrel
    by_cases hlt : k < 8
    · have d1 : decide ((k : Int) < 8) = true := by simp; omega
      have d1' : decide (k < 8) = true := by simpa using hlt
      have hix := HI8.out k hlt
      have hcl := row_cell32 hh k _ (A8.out k hlt)
      generalize (Bg.getD k 0#32).toNat = a at *
      have k0 : (0 : Int) ≤ (k : Int) := by omega
      clear E0 E1
      go_wp2
      go_round
      case rel => exact ⟨k + 1, by omega, by go_num⟩
      case measure => simp [intOf]; omega
    · obtain rfl : k = 8 := by omega
      clear hlt hk8
      go_wp2_with (go_at_call 24; with_reducible refine (rsteps_any _).mono ?_; rintro e w3 ⟨rfl, hb3⟩)
      replace hh := hh.at_ hb3
      replace hk := hk.at_ hb3
      have hB3 := hB2.trans (hb3.mono hB2.size)
      clear hb3 hB2
      generalize S.steps = St at *
      go_loop [34] (fun v => ∃ k : Nat, k ≤ 64 ∧ v = .int .i64 (k : Int)) (fun v => 64 - (intOf v).toNat)
      case atStart => exact ⟨0, by omega, rfl⟩
      case round =>
        obtain ⟨k, hk64, rfl⟩ := hrel
        by_cases hlt : k < 64
        · have d1 : decide ((k : Int) < 64) = true := by simp; omega
          have d1' : decide (k < 64) = true := by simpa using hlt
          have hix := HI64.out k hlt
          have hcl := row_cell32 hk k _ (A64.out k hlt)
          generalize (St.getD k 0#32).toNat = a at *
          have k0 : (0 : Int) ≤ (k : Int) := by omega
          clear E0 E1
          go_wp2
          go_round
          case rel => exact ⟨k + 1, by omega, by go_num⟩
          case measure => simp [intOf]; omega
        · obtain rfl : k = 64 := by omega
          clear hlt hk64
          have hc1 := Lib.hid (fun W (h : Stp w3.drew W) => row_cell32 ((hh.drew).at_ h) 0 1779033703 rfl)
          have hc2 := Lib.hid (fun W (h : Stp w3.drew W) => row_cell32 ((hk.drew).at_ h) 0 1116352408 rfl)
          have hc3 := Lib.hid (fun W (h : Stp w3.drew W) => row_cell32 ((hk.drew).at_ h) 63 3329325298 rfl)
          clear HI8 HI64 A8 A64 hh hk
          replace hB3 := Lib.hid hB3
          go_wp2_with fail
          apply wp_region_rel_below [[], [(45, some 0)], [(3, none), (46, some 1)], [(47, some 2), (46, some 1)], [(48, some 3), (46, some 1)], [(49, some 4), (46, some 1)], [(46, some 1), (50, some 5)], [(51, some 6)], [(4, none), (52, some 7)], [(53, some 8), (52, some 7)], [(54, some 9), (52, some 7)], [(55, some 10), (52, some 7)], [(52, some 7), (56, some 11)], [(57, some 12)], [(4, none), (58, some 13)], [(59, some 14), (58, some 13)], [(60, some 15), (58, some 13)], [(61, some 16), (58, some 13)], [(58, some 13), (62, some 17)], [(63, some 18)], [(64, some 19)], [(64, some 19)], [(65, some 20), (66, some 21), (64, some 19)], [(64, some 19), (67, some 22)], [(68, some 23)], [(0, none), (69, some 24)], [(70, some 25), (69, some 24)], [(71, some 26), (69, some 24)], [(72, some 27), (69, some 24)], [(0, none), (69, some 24)], [(74, some 29), (69, some 24)], [(75, some 30), (69, some 24)], [(76, some 31), (69, some 24)], [(73, some 28), (77, some 32), (69, some 24)], [(69, some 24), (78, some 33)], [(79, some 34)]] [eqv _, eqv _, eqv _, eqv _, eqv _, eqv _, eqv _, eqv _, eqv _, eqv _, eqv _, eqv _, eqv _, eqv _, eqv _, eqv _, eqv _, eqv _, eqv _, eqv _, eqv _, eqv _, eqv _, eqv _, eqv _, eqv _, blkRow 1 1 #[.int .u8 (c.toNat : Int)] 5, eqv _, eqv _, eqv _, blkRow 1 1 #[.int .u8 (c.toNat : Int)] 5, eqv _, eqv _, eqv _, eqv _, eqv _] (by kernel_rfl) (by kernel_rfl)
          case hobs =>
            refine ⟨?_, ?_⟩
            · rintro L a1 w1 hT - - -   -- 0: Op.call { value (Operand.func 19), args := #[], argTypes := #[] }
              (go_simp; go_at_call 19; (with_reducible refine (awake_any _).mono ?_); rintro e w2 ⟨rfl, hb⟩; exact left_intro rfl (Stp.of hb) trivial)
            refine ⟨?_, ?_⟩
            · rintro L a1 w1 hT - - ⟨h45, -⟩   -- 1: Op.move t45
              have e45 : a1.tmps.getD 45 undef = _ := h45
              have f45 := getD_form e45
              clear h45
              (go_simp; exact left_intro rfl (Stp.refl _) trivial)
            refine ⟨?_, ?_⟩
            · rintro L a1 w1 hT - - ⟨h3, h46, -⟩   -- 2: Op.move t3
              have e3 : a1.tmps.getD 3 undef = _ := h3
              have f3 := getD_form e3
              have e46 : a1.tmps.getD 46 undef = _ := h46
              have f46 := getD_form e46
              clear h3 h46
              refine ⟨true, 46, by rfl, e46, ?_⟩; rw [if_pos rfl]
              (go_simp; exact left_intro rfl (Stp.refl _) trivial)
            refine ⟨?_, ?_⟩
            · rintro L a1 w1 hT - - ⟨h47, h46, -⟩   -- 3: Op.indexAddr 28 t47 (const (0:i64))
              have e47 : a1.tmps.getD 47 undef = _ := h47
              have f47 := getD_form e47
              have e46 : a1.tmps.getD 46 undef = _ := h46
              have f46 := getD_form e46
              clear h47 h46
              refine ⟨true, 46, by rfl, e46, ?_⟩; rw [if_pos rfl]
              (go_simp; exact left_intro rfl (Stp.refl _) trivial)
            refine ⟨?_, ?_⟩
            · rintro L a1 w1 hT - - ⟨h48, h46, -⟩   -- 4: Op.load 31 t48
              have e48 : a1.tmps.getD 48 undef = _ := h48
              have f48 := getD_form e48
              have e46 : a1.tmps.getD 46 undef = _ := h46
              have f46 := getD_form e46
              clear h48 h46
              refine ⟨true, 46, by rfl, e46, ?_⟩; rw [if_pos rfl]
              have c48 := hc1.out w1 hT
              (go_simp; exact left_intro rfl (Stp.refl _) trivial)
            refine ⟨?_, ?_⟩
            · rintro L a1 w1 hT - - ⟨h49, h46, -⟩   -- 5: Op.binOp BinOp.eql 31 t49 (const (1779033703:u32)) 31
              have e49 : a1.tmps.getD 49 undef = _ := h49
              have f49 := getD_form e49
              have e46 : a1.tmps.getD 46 undef = _ := h46
              have f46 := getD_form e46
              clear h49 h46
              refine ⟨true, 46, by rfl, e46, ?_⟩; rw [if_pos rfl]
              (go_simp; exact left_intro rfl (Stp.refl _) trivial)
            refine ⟨?_, ?_⟩
            · rintro L a1 w1 hT - - ⟨h46, h50, -⟩   -- 6: Op.pick t46 t50 (const (Value.bool false))
              have e46 : a1.tmps.getD 46 undef = _ := h46
              have f46 := getD_form e46
              have e50 : a1.tmps.getD 50 undef = _ := h50
              have f50 := getD_form e50
              clear h46 h50
              (go_simp; exact left_intro rfl (Stp.refl _) trivial)
            refine ⟨?_, ?_⟩
            · rintro L a1 w1 hT - - ⟨h51, -⟩   -- 7: Op.move t51
              have e51 : a1.tmps.getD 51 undef = _ := h51
              have f51 := getD_form e51
              clear h51
              (go_simp; exact left_intro rfl (Stp.refl _) trivial)
            refine ⟨?_, ?_⟩
            · rintro L a1 w1 hT - - ⟨h4, h52, -⟩   -- 8: Op.move t4
              have e4 : a1.tmps.getD 4 undef = _ := h4
              have f4 := getD_form e4
              have e52 : a1.tmps.getD 52 undef = _ := h52
              have f52 := getD_form e52
              clear h4 h52
              refine ⟨true, 52, by rfl, e52, ?_⟩; rw [if_pos rfl]
              (go_simp; exact left_intro rfl (Stp.refl _) trivial)
            refine ⟨?_, ?_⟩
            · rintro L a1 w1 hT - - ⟨h53, h52, -⟩   -- 9: Op.indexAddr 28 t53 (const (0:i64))
              have e53 : a1.tmps.getD 53 undef = _ := h53
              have f53 := getD_form e53
              have e52 : a1.tmps.getD 52 undef = _ := h52
              have f52 := getD_form e52
              clear h53 h52
              refine ⟨true, 52, by rfl, e52, ?_⟩; rw [if_pos rfl]
              (go_simp; exact left_intro rfl (Stp.refl _) trivial)
            refine ⟨?_, ?_⟩
            · rintro L a1 w1 hT - - ⟨h54, h52, -⟩   -- 10: Op.load 31 t54
              have e54 : a1.tmps.getD 54 undef = _ := h54
              have f54 := getD_form e54
              have e52 : a1.tmps.getD 52 undef = _ := h52
              have f52 := getD_form e52
              clear h54 h52
              refine ⟨true, 52, by rfl, e52, ?_⟩; rw [if_pos rfl]
              have c54 := hc2.out w1 hT
              (go_simp; exact left_intro rfl (Stp.refl _) trivial)
            refine ⟨?_, ?_⟩
            · rintro L a1 w1 hT - - ⟨h55, h52, -⟩   -- 11: Op.binOp BinOp.eql 31 t55 (const (1116352408:u32)) 31
              have e55 : a1.tmps.getD 55 undef = _ := h55
              have f55 := getD_form e55
              have e52 : a1.tmps.getD 52 undef = _ := h52
              have f52 := getD_form e52
              clear h55 h52
              refine ⟨true, 52, by rfl, e52, ?_⟩; rw [if_pos rfl]
              (go_simp; exact left_intro rfl (Stp.refl _) trivial)
            refine ⟨?_, ?_⟩
            · rintro L a1 w1 hT - - ⟨h52, h56, -⟩   -- 12: Op.pick t52 t56 (const (Value.bool false))
              have e52 : a1.tmps.getD 52 undef = _ := h52
              have f52 := getD_form e52
              have e56 : a1.tmps.getD 56 undef = _ := h56
              have f56 := getD_form e56
              clear h52 h56
              (go_simp; exact left_intro rfl (Stp.refl _) trivial)
            refine ⟨?_, ?_⟩
            · rintro L a1 w1 hT - - ⟨h57, -⟩   -- 13: Op.move t57
              have e57 : a1.tmps.getD 57 undef = _ := h57
              have f57 := getD_form e57
              clear h57
              (go_simp; exact left_intro rfl (Stp.refl _) trivial)
            refine ⟨?_, ?_⟩
            · rintro L a1 w1 hT - - ⟨h4, h58, -⟩   -- 14: Op.move t4
              have e4 : a1.tmps.getD 4 undef = _ := h4
              have f4 := getD_form e4
              have e58 : a1.tmps.getD 58 undef = _ := h58
              have f58 := getD_form e58
              clear h4 h58
              refine ⟨true, 58, by rfl, e58, ?_⟩; rw [if_pos rfl]
              (go_simp; exact left_intro rfl (Stp.refl _) trivial)
            refine ⟨?_, ?_⟩
            · rintro L a1 w1 hT - - ⟨h59, h58, -⟩   -- 15: Op.indexAddr 28 t59 (const (63:i64))
              have e59 : a1.tmps.getD 59 undef = _ := h59
              have f59 := getD_form e59
              have e58 : a1.tmps.getD 58 undef = _ := h58
              have f58 := getD_form e58
              clear h59 h58
              refine ⟨true, 58, by rfl, e58, ?_⟩; rw [if_pos rfl]
              (go_simp; exact left_intro rfl (Stp.refl _) trivial)
            refine ⟨?_, ?_⟩
            · rintro L a1 w1 hT - - ⟨h60, h58, -⟩   -- 16: Op.load 31 t60
              have e60 : a1.tmps.getD 60 undef = _ := h60
              have f60 := getD_form e60
              have e58 : a1.tmps.getD 58 undef = _ := h58
              have f58 := getD_form e58
              clear h60 h58
              refine ⟨true, 58, by rfl, e58, ?_⟩; rw [if_pos rfl]
              have c60 := hc3.out w1 hT
              (go_simp; exact left_intro rfl (Stp.refl _) trivial)
            refine ⟨?_, ?_⟩
            · rintro L a1 w1 hT - - ⟨h61, h58, -⟩   -- 17: Op.binOp BinOp.eql 31 t61 (const (3329325298:u32)) 31
              have e61 : a1.tmps.getD 61 undef = _ := h61
              have f61 := getD_form e61
              have e58 : a1.tmps.getD 58 undef = _ := h58
              have f58 := getD_form e58
              clear h61 h58
              refine ⟨true, 58, by rfl, e58, ?_⟩; rw [if_pos rfl]
              (go_simp; exact left_intro rfl (Stp.refl _) trivial)
            refine ⟨?_, ?_⟩
            · rintro L a1 w1 hT - - ⟨h58, h62, -⟩   -- 18: Op.pick t58 t62 (const (Value.bool false))
              have e58 : a1.tmps.getD 58 undef = _ := h58
              have f58 := getD_form e58
              have e62 : a1.tmps.getD 62 undef = _ := h62
              have f62 := getD_form e62
              clear h58 h62
              (go_simp; exact left_intro rfl (Stp.refl _) trivial)
            refine ⟨?_, ?_⟩
            · rintro L a1 w1 hT - - ⟨h63, -⟩   -- 19: Op.move t63
              have e63 : a1.tmps.getD 63 undef = _ := h63
              have f63 := getD_form e63
              clear h63
              (go_simp; exact left_intro rfl (Stp.refl _) trivial)
            refine ⟨?_, ?_⟩
            · rintro L a1 w1 hT - - ⟨h64, -⟩   -- 20: Op.call { value (Operand.func 20), args := #[const (Value.string { data := #[] })], argTypes := #[9] }
              have e64 : a1.tmps.getD 64 undef = _ := h64
              have f64 := getD_form e64
              clear h64
              refine ⟨true, 64, by rfl, e64, ?_⟩; rw [if_pos rfl]
              (go_simp; go_at_call 20; (with_reducible refine (HS0.out _).mono ?_); rintro e w2 ⟨rfl, hb⟩; exact left_intro rfl (Stp.of hb) trivial)
            refine ⟨?_, ?_⟩
            · rintro L a1 w1 hT - - ⟨h64, -⟩   -- 21: Op.call { value (Operand.func 21), args := #[const (Value.string { data := #[] })], argTypes := #[9] }
              have e64 : a1.tmps.getD 64 undef = _ := h64
              have f64 := getD_form e64
              clear h64
              refine ⟨true, 64, by rfl, e64, ?_⟩; rw [if_pos rfl]
              (go_simp; go_at_call 21; (with_reducible refine (HR0.out _).mono ?_); rintro e w2 ⟨rfl, hb⟩; exact left_intro rfl (Stp.of hb) trivial)
            refine ⟨?_, ?_⟩
            · rintro L a1 w1 hT - - ⟨h65, h66, h64, -⟩   -- 22: Op.binOp BinOp.eql 25 t65 t66 25
              have e65 : a1.tmps.getD 65 undef = _ := h65
              have f65 := getD_form e65
              have e66 : a1.tmps.getD 66 undef = _ := h66
              have f66 := getD_form e66
              have e64 : a1.tmps.getD 64 undef = _ := h64
              have f64 := getD_form e64
              clear h65 h66 h64
              refine ⟨true, 64, by rfl, e64, ?_⟩; rw [if_pos rfl]
              exact wp_bin .eql 25 25 (.tmp 65) (.tmp 66) rfl _ _ e65 e66 guard_lab _ (E0 _) (left_intro rfl (Stp.refl _) trivial)
            refine ⟨?_, ?_⟩
            · rintro L a1 w1 hT - - ⟨h64, h67, -⟩   -- 23: Op.pick t64 t67 (const (Value.bool false))
              have e64 : a1.tmps.getD 64 undef = _ := h64
              have f64 := getD_form e64
              have e67 : a1.tmps.getD 67 undef = _ := h67
              have f67 := getD_form e67
              clear h64 h67
              (go_simp; exact left_intro rfl (Stp.refl _) trivial)
            refine ⟨?_, ?_⟩
            · rintro L a1 w1 hT - - ⟨h68, -⟩   -- 24: Op.move t68
              have e68 : a1.tmps.getD 68 undef = _ := h68
              have f68 := getD_form e68
              clear h68
              (go_simp; exact left_intro rfl (Stp.refl _) trivial)
            refine ⟨?_, ?_⟩
            · rintro L a1 w1 hT - - ⟨h0, h69, -⟩   -- 25: Op.move t0
              have e0 : a1.tmps.getD 0 undef = _ := h0
              have f0 := getD_form e0
              have e69 : a1.tmps.getD 69 undef = _ := h69
              have f69 := getD_form e69
              clear h0 h69
              refine ⟨true, 69, by rfl, e69, ?_⟩; rw [if_pos rfl]
              (go_simp; exact left_intro rfl (Stp.refl _) trivial)
            refine ⟨?_, ?_⟩
            · rintro L a1 w1 hT - - ⟨h70, h69, -⟩   -- 26: Op.buildSlice 36 1 #[(0, t70)]
              have e70 : a1.tmps.getD 70 undef = _ := h70
              have f70 := getD_form e70
              have e69 : a1.tmps.getD 69 undef = _ := h69
              have f69 := getD_form e69
              clear h70 h69
              refine ⟨true, 69, by rfl, e69, ?_⟩; rw [if_pos rfl]
              (go_simp; exact left_intro (T := Stp) (Ph := fun _ _ _ => True) (blkRow_new _ _ _ _ _) (Stp.alloc _ _) trivial)
            refine ⟨?_, ?_⟩
            · rintro L a1 w1 hT - - ⟨h71, h69, -⟩   -- 27: Op.convert 36 9 t71
              obtain ⟨b71, e71, B71⟩ : blkRow 1 1 #[.int .u8 (c.toNat : Int)] 5 (a1.tmps.getD 71 undef) w1 := h71
              have f71 := getD_form e71
              have c71 := hcv w1 b71 (B71.cellv rfl)
              have e69 : a1.tmps.getD 69 undef = _ := h69
              have f69 := getD_form e69
              clear h69
              refine ⟨true, 69, by rfl, e69, ?_⟩; rw [if_pos rfl]
              (go_simp; exact left_intro rfl (Stp.refl _) trivial)
            refine ⟨?_, ?_⟩
            · rintro L a1 w1 hT - - ⟨h72, h69, -⟩   -- 28: Op.call { value (Operand.func 20), args := #[t72], argTypes := #[9] }
              have e72 : a1.tmps.getD 72 undef = _ := h72
              have f72 := getD_form e72
              have e69 : a1.tmps.getD 69 undef = _ := h69
              have f69 := getD_form e69
              clear h72 h69
              refine ⟨true, 69, by rfl, e69, ?_⟩; rw [if_pos rfl]
              (go_simp; go_at_call 20; (with_reducible refine (HS1.out _).mono ?_); rintro e w2 ⟨rfl, hb⟩; exact left_intro rfl (Stp.of hb) trivial)
            refine ⟨?_, ?_⟩
            · rintro L a1 w1 hT - - ⟨h0, h69, -⟩   -- 29: Op.move t0
              have e0 : a1.tmps.getD 0 undef = _ := h0
              have f0 := getD_form e0
              have e69 : a1.tmps.getD 69 undef = _ := h69
              have f69 := getD_form e69
              clear h0 h69
              refine ⟨true, 69, by rfl, e69, ?_⟩; rw [if_pos rfl]
              (go_simp; exact left_intro rfl (Stp.refl _) trivial)
            refine ⟨?_, ?_⟩
            · rintro L a1 w1 hT - - ⟨h74, h69, -⟩   -- 30: Op.buildSlice 36 1 #[(0, t74)]
              have e74 : a1.tmps.getD 74 undef = _ := h74
              have f74 := getD_form e74
              have e69 : a1.tmps.getD 69 undef = _ := h69
              have f69 := getD_form e69
              clear h74 h69
              refine ⟨true, 69, by rfl, e69, ?_⟩; rw [if_pos rfl]
              (go_simp; exact left_intro (T := Stp) (Ph := fun _ _ _ => True) (blkRow_new _ _ _ _ _) (Stp.alloc _ _) trivial)
            refine ⟨?_, ?_⟩
            · rintro L a1 w1 hT - - ⟨h75, h69, -⟩   -- 31: Op.convert 36 9 t75
              obtain ⟨b75, e75, B75⟩ : blkRow 1 1 #[.int .u8 (c.toNat : Int)] 5 (a1.tmps.getD 75 undef) w1 := h75
              have f75 := getD_form e75
              have c75 := hcv w1 b75 (B75.cellv rfl)
              have e69 : a1.tmps.getD 69 undef = _ := h69
              have f69 := getD_form e69
              clear h69
              refine ⟨true, 69, by rfl, e69, ?_⟩; rw [if_pos rfl]
              (go_simp; exact left_intro rfl (Stp.refl _) trivial)
            refine ⟨?_, ?_⟩
            · rintro L a1 w1 hT - - ⟨h76, h69, -⟩   -- 32: Op.call { value (Operand.func 21), args := #[t76], argTypes := #[9] }
              have e76 : a1.tmps.getD 76 undef = _ := h76
              have f76 := getD_form e76
              have e69 : a1.tmps.getD 69 undef = _ := h69
              have f69 := getD_form e69
              clear h76 h69
              refine ⟨true, 69, by rfl, e69, ?_⟩; rw [if_pos rfl]
              (go_simp; go_at_call 21; (with_reducible refine (HR1.out _).mono ?_); rintro e w2 ⟨rfl, hb⟩; exact left_intro rfl (Stp.of hb) trivial)
            refine ⟨?_, ?_⟩
            · rintro L a1 w1 hT - - ⟨h73, h77, h69, -⟩   -- 33: Op.binOp BinOp.eql 25 t73 t77 25
              have e73 : a1.tmps.getD 73 undef = _ := h73
              have f73 := getD_form e73
              have e77 : a1.tmps.getD 77 undef = _ := h77
              have f77 := getD_form e77
              have e69 : a1.tmps.getD 69 undef = _ := h69
              have f69 := getD_form e69
              clear h73 h77 h69
              refine ⟨true, 69, by rfl, e69, ?_⟩; rw [if_pos rfl]
              exact wp_bin .eql 25 25 (.tmp 73) (.tmp 77) rfl _ _ e73 e77 guard_lab _ (E1 _) (left_intro rfl (Stp.refl _) trivial)
            refine ⟨?_, ?_⟩
            · rintro L a1 w1 hT - - ⟨h69, h78, -⟩   -- 34: Op.pick t69 t78 (const (Value.bool false))
              have e69 : a1.tmps.getD 69 undef = _ := h69
              have f69 := getD_form e69
              have e78 : a1.tmps.getD 78 undef = _ := h78
              have f78 := getD_form e78
              clear h69 h78
              (go_simp; exact left_intro rfl (Stp.refl _) trivial)
            refine ⟨?_, ?_⟩
            · rintro L a1 w1 hT - - ⟨h79, -⟩   -- 35: Op.assign t79
              have e79 : a1.tmps.getD 79 undef = _ := h79
              have f79 := getD_form e79
              clear h79
              (go_simp; exact left_intro rfl (Stp.refl _) trivial)
            trivial
          case hmono => repeat (first | exact trivial | refine ⟨fun _ _ _ _ h => h, ?_⟩ | refine ⟨mono_blkRow _ _ _ _, ?_⟩)
          case hend =>
            intro w2 hT
            rintro _ rfl _ rfl _ rfl _ rfl _ rfl _ rfl _ rfl _ rfl _ rfl _ rfl _ rfl _ rfl _ rfl _ rfl _ rfl _ rfl _ rfl _ rfl _ rfl _ rfl _ rfl _ rfl _ rfl _ rfl _ rfl _ rfl v71 - _ rfl _ rfl _ rfl v75 - _ rfl _ rfl _ rfl _ rfl _ rfl
            simp only [relEnd, Act.put, List.setIfInBounds_toArray, List.set_cons_succ, List.set_cons_zero]
            go_wp2
            go_ret
            exact ⟨rfl, hB3.out.trans (hT.mono hB3.out.size)⟩
set_option maxRecDepth 1000000 in
theorem tables_law : LawHolds 4 Try.f4 := by
  intro H enc W base args ds p hval hA
  rw [Try.params4] at hA hval
  obtain ⟨v0, vs0, d0, ds0, p0, q0, hargs, rfl, rfl, k0, r0⟩ := trodAll_cons hA
  obtain ⟨rfl, rfl, rfl⟩ := trodAll_nil r0
  obtain rfl : args = #[v0] := by cases args; simp_all
  obtain ⟨b, rfl⟩ := open_byte (hval 0 5 v0 rfl rfl) k0
  exact tables_walk b W

theorem tables_lifted (os : Os) (started : os.Started) (H : Type) (enc : TypeId × Value → H) :
    ReturnsInHanded {} Try.checked os 4 .any (Rows.shaTablesSpec.pre6 enc Try.prog Try.f4 Rows.shaTablesRow.domain false) (Rows.shaTablesSpec.post enc Try.prog Try.f4 false true false false) :=
  lifted_of started (by kernel_rfl) Try.func4
    (ChangeSpec.witness6 (enc := enc) (C := Try.checked) false ⟨#[], #[.int .u8 0], []⟩ 8 (by kernel_rfl) (by kernel_rfl) (by kernel_rfl) (by kernel_rfl))
    rfl (by kernel_rfl) (fun ds h => by rw [Try.params4] at h; match ds, h with | [_], _ => rfl) (by rw [Try.params4]; exact of_decide_eq_true (by kernel_rfl)) tables_law
theorem tables_over : Rows.shaTablesRow.holds Try.pinned (OpenSpec.ofChange Rows.shaTablesSpec) :=
  OpenClaim.holds_of_wide 4 Try.f4 rfl rfl rfl rfl rfl rfl rfl ⟨rfl, rfl, rfl, rfl, rfl⟩ rfl rfl rfl rfl rfl (by kernel_rfl) Try.func4 (by kernel_rfl)
    (of_decide_eq_true (by kernel_rfl)) (by unfold Func.isWrapper; first | (rw [if_pos (by decide +kernel)]; kernel_rfl) | (rw [if_neg (by decide +kernel)]; exact ⟨rfl, rfl⟩))
    (fun os started H enc _ => tables_lifted os started H enc)
/-- The statement. -/
theorem tables_proved : Rows.ShaTablesSaid := tables_over
#print axioms tables_proved
end Go.Proofs.Ytgjmnhbkdccgpaa

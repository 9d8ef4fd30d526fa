/- The walks of the document's own sum: the beginning, the constants, the padding. -/
import Derived.Test.YtgjmnhbkdccgpaaWSum
namespace Go.Proofs.Ytgjmnhbkdccgpaa
open Go.RowKit

theorem fresh_r8 (w : World) : (Instr.alloc 32 true (.tuple #[])).run Try.prog w = .ok (.pointer (some ⟨w.heap.size, 0, none⟩)) (w.alloc (.cells (wsA (List.replicate 8 0#32)) 32)) := by kernel_rfl
theorem size_r8 (l : List (BitVec 32)) (h : l.length = 8) : (Try.prog.info? 32).map (·.size) = some (wsA l).size := by rw [wsA_size, h]; kernel_rfl
theorem build_rbegin (w : World) : (Instr.build 32 #[(0, .int .u32 1779033703), (1, .int .u32 3144134277), (2, .int .u32 1013904242), (3, .int .u32 2773480762), (4, .int .u32 1359893119), (5, .int .u32 2600822924), (6, .int .u32 528734635), (7, .int .u32 1541459225)]).run Try.prog w = .ok (.agg (wsA S.begin.list)) w := by kernel_rfl
set_option maxRecDepth 100000 in
set_option maxHeartbeats 400000 in
theorem rsteps_any (w : World) : Calls Try.prog 24 #[] w fun e w' => e = .returned (.agg (wsA S.steps)) ∧ Below w.heap.size w w' := by
  go_enter Try.func24, Try.ntmps24
  go_wp2_with (first | (refine wpList_fresh (by rfl) 34 (by rfl) _ fresh_w64 ?_; simp only [Act.put, List.setIfInBounds_toArray, List.set_cons_zero]) | (refine wpList_build (by rfl) 34 stepOps (by rfl) stepVals (step_evals _) (.agg (wsA S.steps)) build_steps ?_; simp only [Act.put, List.setIfInBounds_toArray, List.set_cons_zero, List.set_cons_succ]) | ((refine wpList_store_blk (by rfl) 34 (.tmp 0) (.tmp 1) (by rfl) (0) (wsA S.steps) (by rfl) (by rfl) ((Blk.new _ _ _)) ((by rw [wsA_size, wsA_size]; decide)) (size_w64 S.steps rfl) (wsA_all _) ?_; simp only [Act.put]); intro w5 b5 o5))
  rw [splice_all _ _ (by rw [wsA_size, wsA_size]; rfl)] at b5
  exact bodyPost_ret (v := .agg (wsA S.steps)) (results_blk (by rfl) _ b5 _ (by rfl) Try.underlying34 (by rfl) (size_w64 S.steps rfl)) rfl ⟨rfl, o5.below (below_alloc1 _ _) (Nat.le_refl _)⟩
set_option maxRecDepth 100000 in
set_option maxHeartbeats 400000 in
theorem rbegin_any (w : World) : Calls Try.prog 23 #[] w fun e w' => e = .returned (.agg (wsA S.begin.list)) ∧ Below w.heap.size w w' := by
  go_enter Try.func23, Try.ntmps23
  go_wp2_with (first | (refine wpList_fresh (by rfl) 32 (by rfl) _ fresh_r8 ?_; simp only [Act.put, List.setIfInBounds_toArray, List.set_cons_zero]) | (refine wpList_build (by rfl) 32 ([(0, .const (.int .u32 1779033703)), (1, .const (.int .u32 3144134277)), (2, .const (.int .u32 1013904242)), (3, .const (.int .u32 2773480762)), (4, .const (.int .u32 1359893119)), (5, .const (.int .u32 2600822924)), (6, .const (.int .u32 528734635)), (7, .const (.int .u32 1541459225))]) (by rfl) ([(0, .int .u32 1779033703), (1, .int .u32 3144134277), (2, .int .u32 1013904242), (3, .int .u32 2773480762), (4, .int .u32 1359893119), (5, .int .u32 2600822924), (6, .int .u32 528734635), (7, .int .u32 1541459225)]) (by rfl) (.agg (wsA S.begin.list)) (build_rbegin) ?_; simp only [Act.put, List.setIfInBounds_toArray, List.set_cons_succ, List.set_cons_zero]) | ((refine wpList_store_blk (by rfl) 32 (.tmp 0) (.tmp 1) (by rfl) (0) (wsA S.begin.list) (by rfl) (by rfl) ((Blk.new _ _ _)) ((by rw [wsA_size, wsA_size]; decide)) (size_r8 S.begin.list rfl) (wsA_all _) ?_; simp only [Act.put]); intro w5 b5 o5))
  rw [splice_all _ _ (by rw [wsA_size, wsA_size]; rfl)] at b5
  exact bodyPost_ret (v := .agg (wsA S.begin.list)) (results_blk (by rfl) _ b5 _ (by rfl) Try.underlying32 (by rfl) (size_r8 S.begin.list rfl)) rfl ⟨rfl, o5.below (below_alloc1 _ _) (Nat.le_refl _)⟩
set_option maxRecDepth 100000 in
set_option maxHeartbeats 1000000 in
theorem rpadded_any (l : List UInt8) (w : World) (hl : l.length ≤ 140737488355000) :
    Calls Try.prog 60 #[.string ⟨l.toArray⟩] w fun e w' => ∃ v, e = .returned v ∧ MBuf w.heap.size w' v (S.padded l) ∧ Below w.heap.size w w' := by
  obtain ⟨W, cap, z, hrun, hW1, hW2, hcap, hW3⟩ := bytes_blk l w 36 Try.underlying36
  have hB := MBuf.ofBlkF hW3 (Nat.le_refl _) hcap
  have hle0 := hW1.size
  clear hW2 hW3 hcap
  go_enter Try.func60, Try.ntmps60
  go_wp2_with (at_builtin; refine wpList_append_mb rfl (.tmp 7) (.tmp 8) 36 rfl Try.underlying36 rfl (hB.at_ (below_alloc1 _ _)) (Nat.le_trans hle0 (by simp)) ⟨W.heap.size, 0, none⟩ 128 (by rfl) (new_byte W 128 128 (by decide) _) (by omega) ?_; intro v1 w1 hB1 hb1; have M1 := (hW1.alloc hle0 _).trans hb1; clear hB hb1)
  go_loopw [3] (fun v wr => ∃ k : Nat, k ≤ S.noughts l.length ∧ MBuf w.heap.size wr v (l ++ 128 :: List.replicate k 0) ∧ Below w.heap.size w wr) (fun v _ => l.length + 1 + S.noughts l.length - slen v)
  case atStart => exact ⟨0, by omega, hB1, M1⟩
  case round =>
    clear hB1 M1
    obtain ⟨k, hk, hB, M⟩ := hrel
    have hnl := S.noughts_lt l.length
    have hxl : (l ++ 128 :: List.replicate k (0 : UInt8)).length = l.length + 1 + k := by simp; omega
    have htest := S.nought_test l.length k hk
    obtain ⟨g, cap, rfl, hg1, hg2, hle, hc⟩ := hB.cell
    obtain ⟨n, hn⟩ : ∃ n, n = (l ++ 128 :: List.replicate k (0 : UInt8)).length := ⟨_, rfl⟩
    rw [← hn] at hB hle hc hxl ⊢
    have Hn := Lib.hid hn
    clear hn
    by_cases hlast : k = S.noughts l.length
    · have ht : (n : Int) % 64 = 56 := by have := htest.2 hlast; omega
      have ht2 : ((n : Int) % 64 != 56) = false := by rw [ht]; rfl
      subst hlast
      have hnm : n ≤ 140737488355100 := by omega
      have Hxl := Lib.hid hxl
      have hu : IntKind.u64.wrap (l.length : Int) = (l.length : Int) := by rw [IntKind.wrap_u64]; omega
      clear htest hc hle hg1 hg2 hnl hk hxl
      go_wp2
      clear ht ht2 hu
      go_loopw [3, 5] (fun v i wr => ∃ (j : Nat), j ≤ 8 ∧ i = .int .i64 (j : Int) ∧ MBuf w.heap.size wr v (l ++ 128 :: List.replicate (S.noughts l.length) 0 ++ (S.be8 (8 * l.length)).take j) ∧ Below w.heap.size w wr) (fun _ i _ => (8 - intOf i).toNat)
      case atStart => exact ⟨0, by omega, rfl, by rw [List.take_zero, List.append_nil]; exact hB, M⟩
      case round =>
        clear hB M
        obtain ⟨j, hj, rfl, hB, M⟩ := hrel
        obtain ⟨g, cap, rfl, hg1, hg2, hle, hc⟩ := hB.cell
        have hxl : (l ++ 128 :: List.replicate (S.noughts l.length) (0 : UInt8) ++ (S.be8 (8 * l.length)).take j).length = n + j := by rw [List.length_append, ← Hn.out, List.length_take, S.be8_length]; omega
        by_cases hlast : j = 8
        · subst hlast
          rw [List.take_of_length_le (by rw [S.be8_length]; omega)] at hB hc hle hxl ⊢
          have hP : l ++ 128 :: List.replicate (S.noughts l.length) (0 : UInt8) ++ S.be8 (8 * l.length) = S.padded l := by rfl
          rw [hP] at hB hc hle hxl ⊢
          clear hP hxl hc hle
          go_wp2
          go_ret
          exact ⟨_, rfl, hB, M⟩
        · have d1 : decide ((j : Int) < 8) = true := by simp; omega
          have hj0 : (0 : Int) ≤ (j : Int) := by omega
          have hj8 : (j : Int) < 8 := by omega
          have hd : ((l.length : Int) * 8) / 2 ^ (56 - 8 * (j : Int)).toNat = ((8 * l.length / 256 ^ (7 - j) : Nat) : Int) := by
            rw [show (56 - 8 * (j : Int)).toNat = 8 * (7 - j) from by omega, Nat.pow_mul 2 8 (7 - j) |> fun h => show ((2 : Int) ^ (8 * (7 - j))) = (((2 ^ 8) ^ (7 - j) : Nat) : Int) from by rw [← h]; simp, Int.natCast_ediv, Int.mul_comm]; rfl
          have hq : ((UInt8.ofNat (8 * l.length / 256 ^ (7 - j))).toNat : Int) = ((8 * l.length / 256 ^ (7 - j) : Nat) : Int) % 256 := by rw [UInt8.toNat_ofNat']; omega
          have Htk := Lib.hid (S.be8_take (8 * l.length) j (by omega))
          have hqn := Int.natCast_nonneg (8 * l.length / 256 ^ (7 - j))
          generalize 8 * l.length / 256 ^ (7 - j) = q at *
          generalize hX : l ++ 128 :: List.replicate (S.noughts l.length) (0 : UInt8) ++ (S.be8 (8 * l.length)).take j = X at *
          have HX := Lib.hid hX
          clear hX hc hle
          have hXl : X.length + 1 ≤ 140737488355328 := by omega
          have Hm := Lib.hid hxl
          obtain ⟨m, hm⟩ : ∃ m, m = X.length := ⟨_, rfl⟩
          rw [← hm] at hB ⊢
          have hmb : m + 1 ≤ 140737488355328 := by omega
          have hsz := M.size
          clear hxl hm
          go_wp2_with (at_builtin; refine wpList_append_mb rfl (.tmp 25) (.tmp 32) 36 rfl Try.underlying36 rfl (hB.at_ (below_alloc1 _ _)) (Nat.le_trans hsz (by simp)) ⟨wr.heap.size, 0, none⟩ (UInt8.ofNat q) (by rfl) (new_byte wr _ _ hq _) hXl ?_; intro v1 w1 hB1 hb1; have M1 := (M.alloc hsz _).trans hb1; clear hB M hb1)
          go_roundw
          case rel => exact ⟨j + 1, by omega, by go_num, by rw [Htk.out, ← List.append_assoc, HX.out]; exact hB1, M1⟩
          case measure => simp [intOf]; omega
    · have ht : ((n : Int) % 64 == 56) = false := by rw [beq_eq_false_iff_ne]; intro e; exact hlast (htest.1 (by omega))
      have ht2 : ((n : Int) % 64 != 56) = true := by rw [bne, ht]; rfl
      have hnb : n + 1 ≤ 140737488355328 := by omega
      have hsz := M.size
      clear htest hc
      go_wp2_with (at_builtin; refine wpList_append_mb rfl (.tmp 14) (.tmp 15) 36 rfl Try.underlying36 rfl (hB.at_ (below_alloc1 _ _)) (Nat.le_trans hsz (by simp)) ⟨wr.heap.size, 0, none⟩ 0 (by rfl) (new_byte wr 0 0 (by decide) _) (by rw [← Hn.out]; exact hnb) ?_; intro v1 w1 hB1 hb1; have M1 := (M.alloc hsz _).trans hb1; clear hB M hb1)
      go_roundw
      case rel => exact ⟨k + 1, by omega, by rw [snoc0] at hB1; exact hB1, M1⟩
      case measure => rw [hB1.slen]; simp only [slen, List.length_append, List.length_singleton, ← Hn.out]; omega
end Go.Proofs.Ytgjmnhbkdccgpaa

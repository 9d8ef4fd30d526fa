/- The walks of journal.Name and number. -/
import Derived.Test.YtknkbioalohofaaDkL
import Derived.Test.YtknkbioalohofaaPureJrn
import Derived.Test.YtknkbioalohofaaKit7
import Derived.Lib.SlBytesConst
namespace Go.Proofs.Ytknkbioalohofaa
open Go.RowKit

set_option maxRecDepth 100000 in
set_option maxHeartbeats 2000000 in
theorem name_any (n : Nat) (hn : n < 10000000000) (w : World) :
    Calls Try.prog 61 #[.int .i64 (n : Int)] w fun e w' => e = .returned (.string ⟨(Jr.name n).toArray⟩) ∧ Below w.heap.size w w' := by
  have hcv := Lib.run_convert_bytes_const (P := Try.prog) w 41 5 #[.int .u8 108, .int .u8 111, .int .u8 103, .int .u8 45, .int .u8 48, .int .u8 48, .int .u8 48, .int .u8 48, .int .u8 48, .int .u8 48, .int .u8 48, .int .u8 48, .int .u8 48, .int .u8 48] 14 14 Try.underlying41 Try.underlying5
  have hb0 : BlkF (w.alloc (.cells #[.int .u8 108, .int .u8 111, .int .u8 103, .int .u8 45, .int .u8 48, .int .u8 48, .int .u8 48, .int .u8 48, .int .u8 48, .int .u8 48, .int .u8 48, .int .u8 48, .int .u8 48, .int .u8 48] 5 (14, 15))) w.heap.size (labA (Jr.part n 0)) 5 := heap_alloc_new w _
  go_enter Try.func61, Try.ntmps61
  go_wp2
  go_loopw [0, 4] (fun q i wr => ∃ j : Nat, j ≤ 10 ∧ q = .int .i64 ((n / 10 ^ j : Nat) : Int) ∧ i = .int .i64 (13 - (j : Int)) ∧ BlkF wr w.heap.size (labA (Jr.part n j)) 5 ∧ Below w.heap.size w wr) (fun _ i _ => (intOf i + 1).toNat)
  case atStart => exact ⟨0, by omega, by rw [Nat.pow_zero, Nat.div_one], rfl, hb0, (Below.refl _ _).alloc (Nat.le_refl _) _⟩
  case round =>
    clear hb0
    obtain ⟨j, hj, rfl, rfl, hb, hB⟩ := hrel
    by_cases hmore : j < 10 ∧ 0 < n / 10 ^ j
    · obtain ⟨h10, hq⟩ := hmore
      have hstep := Jr.part_step n j h10
      have hdiv : n / 10 ^ (j + 1) = n / 10 ^ j / 10 := by rw [Nat.pow_succ, Nat.div_div_eq_div_mul]
      have hplen := Jr.part_length n j hj
      have hqn : n / 10 ^ j < 10000000000 := Nat.lt_of_le_of_lt (Nat.div_le_self _ _) hn
      obtain ⟨i, hi⟩ : ∃ i : Nat, i = 13 - j := ⟨_, rfl⟩
      have hii : (13 : Int) - (j : Int) = (i : Int) := by omega
      rw [hii]
      have hdig := Jr.u8_dig (n / 10 ^ j)
      rw [← hi] at hstep
      generalize n / 10 ^ j = q at *
      have hput := blkF_put hb i (UInt8.ofNat (48 + q % 10))
      have cI := blkF_bytes hb i (by omega)
      have fI := hb.free i (by rw [labA_size]; omega)
      have hB1 := (Only.setCell wr w.heap.size i (.int .u8 ((UInt8.ofNat (48 + q % 10)).toNat : Int))).below hB (Nat.le_refl _)
      rw [hstep] at hput
      rw [hdig] at hput hB1
      have d1 : decide ((4 : Int) ≤ (i : Int)) = true := decide_eq_true (by omega)
      have d2 : decide ((0 : Int) < (q : Int)) = true := decide_eq_true (by omega)
      have m1 : Int.tmod (q : Int) 10 = ((q % 10 : Nat) : Int) := by rw [Int.tmod_eq_emod_of_nonneg (by omega)]; rfl
      have m2 : Int.tdiv (q : Int) 10 = ((q / 10 : Nat) : Int) := by rw [Int.tdiv_eq_ediv_of_nonneg (by omega)]; rfl
      have j0 : (0 : Int) ≤ (i : Int) := by omega
      have j1 : (i : Int) < 14 := by omega
      have Hd := Lib.hid hdiv
      clear hstep hdiv hdig hi hn
      go_wp2
      go_roundw
      case rel => exact ⟨j + 1, by omega, by rw [Hd.out]; rfl, congrArg _ (by omega), hput, hB1⟩
      case measure => simp [intOf]
    · have hdone : Jr.part n j = Jr.name n := by
        rcases Nat.lt_or_ge j 10 with h | h
        · refine Jr.part_done n j hj ?_
          have h0 : n / 10 ^ j = 0 := by
            rcases Nat.eq_zero_or_pos (n / 10 ^ j) with e | e
            · exact e
            · exact absurd ⟨h, e⟩ hmore
          rcases Nat.lt_or_ge n (10 ^ j) with h1 | h1
          · exact h1
          · have := Nat.div_pos h1 (Nat.pow_pos (by omega)); omega
        · obtain rfl : j = 10 := by omega
          exact Jr.part_ten n
      rw [hdone] at hb
      have hcs := conv_blkF hb 41 Try.underlying41 14 14 (by rw [Jr.name_length]; omega)
      rw [List.take_of_length_le (by rw [Jr.name_length]; omega)] at hcs
      by_cases h10 : j < 10
      · have h0 : n / 10 ^ j = 0 := by
          rcases Nat.eq_zero_or_pos (n / 10 ^ j) with e | e
          · exact e
          · exact absurd ⟨h10, e⟩ hmore
        rw [h0]
        have d1 : decide ((4 : Int) ≤ 13 - (j : Int)) = true := decide_eq_true (by omega)
        clear hmore h0 hdone
        go_wp2
        go_ret
        exact ⟨rfl, hB⟩
      · have d1 : decide ((4 : Int) ≤ 13 - (j : Int)) = false := decide_eq_false (by omega)
        clear hmore hdone
        generalize n / 10 ^ j = q at *
        go_wp2
        go_ret
        exact ⟨rfl, hB⟩
end Go.Proofs.Ytknkbioalohofaa

/- The walk of journal.number at a segment's name. -/
import Derived.Test.YtknkbioalohofaaJrA
namespace Go.Proofs.Ytknkbioalohofaa
open Go.RowKit

set_option maxRecDepth 100000 in
set_option maxHeartbeats 2000000 in
theorem number_any (n : Nat) (hn : n < 10000000000) (w : World) :
    Calls Try.prog 99 #[.string ⟨(Jr.name n).toArray⟩] w fun e w' => e = .returned (.int .i64 (n : Int)) ∧ Below w.heap.size w w' := by
  have hz : (⟨(Jr.name n).toArray⟩ : ByteArray).size = 14 := by rw [str_size, Jr.name_length]
  have hl4 : (⟨#[108, 111, 103, 45]⟩ : ByteArray).size = 4 := rfl
  have s1 := fun W => str_upto_ (Jr.name n) 4 4 rfl (by rw [Jr.name_length]; omega) W
  have s2 := fun W => str_from_ (Jr.name n) 4 4 rfl (by rw [Jr.name_length]; omega) W
  rw [show (Jr.name n).take 4 = [108, 111, 103, 45] from rfl] at s1
  rw [show (Jr.name n).drop 4 = Jr.dig 10 n from rfl] at s2
  have hz2 : (⟨(Jr.dig 10 n).toArray⟩ : ByteArray).size = 10 := by rw [str_size, Jr.dig_length]
  obtain ⟨W, cap, z, hcv, hB, hsz, hcap, hF⟩ := bytes_blk (Jr.dig 10 n) w 41 Try.underlying41
  rw [Jr.dig_length] at hcv hcap
  generalize (⟨(Jr.name n).toArray⟩ : ByteArray) = S at *
  go_enter Try.func99, Try.ntmps99
  go_wp2_with (first | go_in)
  clear hcv hsz hcap s1 s2 hz hz2 hl4
  go_loopw [5, 23] (fun v i wr => ∃ k : Nat, k ≤ 10 ∧ v = .int .i64 ((n / 10 ^ (10 - k) : Nat) : Int) ∧ i = .int .i64 (k : Int) ∧ BlkF wr w.heap.size (labA (Jr.dig 10 n ++ List.replicate z 0)) 5 ∧ Below w.heap.size w wr) (fun _ i _ => 10 - (intOf i).toNat)
  case atStart => exact ⟨0, by omega, by rw [Nat.div_eq_of_lt (by simpa using hn)]; rfl, rfl, hF, hB⟩
  case round =>
    clear hF hB
    obtain ⟨k, hk, rfl, rfl, hF, hB⟩ := hrel
    have j0 : (0 : Int) ≤ (k : Int) := by omega
    by_cases h10 : k < 10
    · have hv := Jr.dig_value n k h10
      have hget := Jr.dig_get n 10 k h10
      have cB := blkF_bytes hF k (by rw [List.length_append, Jr.dig_length]; omega)
      have hgd : (Jr.dig 10 n ++ List.replicate z 0).getD k 0 = UInt8.ofNat (48 + n / 10 ^ (10 - 1 - k) % 10) := by
        rw [List.getD_eq_getElem?_getD, List.getElem?_append_left (by rw [Jr.dig_length]; omega), hget]; rfl
      rw [hgd, Jr.u8_dig] at cB
      have hd : n / 10 ^ (10 - 1 - k) % 10 < 10 := Nat.mod_lt _ (by omega)
      have hq : n / 10 ^ (10 - k) < 10000000000 := Nat.lt_of_le_of_lt (Nat.div_le_self _ _) hn
      generalize n / 10 ^ (10 - 1 - k) % 10 = d at *
      have Hv := Lib.hid hv
      clear hv hget hgd
      generalize n / 10 ^ (10 - k) = q at *
      have d1 : decide ((k : Int) < 10) = true := decide_eq_true (by omega)
      have d2 : decide (((48 + d : Nat) : Int) < 48) = false := decide_eq_false (by omega)
      have d3 : decide (57 < ((48 + d : Nat) : Int)) = false := decide_eq_false (by omega)
      have d2' : decide (48 + (d : Int) < 48) = false := decide_eq_false (by omega)
      have d3' : decide (57 < 48 + (d : Int)) = false := decide_eq_false (by omega)
      have j1 : (k : Int) < 10 := by omega
      have hcapk : k < 10 + z := by omega
      go_wp2
      go_roundw
      case rel => exact ⟨k + 1, by omega, by rw [Hv.out]; congr 1; omega, by rfl, hF, hB⟩
      case measure => simp [intOf]; omega
    · obtain rfl : k = 10 := by omega
      rw [show 10 - 10 = 0 from rfl, Nat.pow_zero, Nat.div_one]
      go_wp2
      go_ret
      exact ⟨rfl, hB⟩
end Go.Proofs.Ytknkbioalohofaa

/- Numbers as eight bytes: the walks of node.number and of the document's Eight. -/
import Derived.Test.YtgjmnhbkdccgpaaWNumB
import Derived.Test.YtgjmnhbkdccgpaaKit6
namespace Go.Proofs.Ytgjmnhbkdccgpaa
open Go.RowKit

namespace D
def u64 (n : Int) : Nat := (n % 18446744073709551616).toNat
theorem u64_lt (n : Int) : u64 n < 18446744073709551616 := by unfold u64; omega
/-- A number as eight bytes. -/
def eight (n : Int) : List UInt8 := bek (u64 n) 8
theorem eight_length (n : Int) : (eight n).length = 8 := bek_length _ 8
/-- The first i of them, and noughts. -/
def part8 (x i : Nat) : List UInt8 := (bek x 8).take i ++ List.replicate (8 - i) 0
theorem part8_length (x i : Nat) (h : i ≤ 8) : (part8 x i).length = 8 := by
  unfold part8
  rw [List.length_append, List.length_take, bek_length, List.length_replicate]; omega
theorem part8_zero (x : Nat) : part8 x 0 = List.replicate 8 0 := by unfold part8; simp
theorem part8_all (x : Nat) : part8 x 8 = bek x 8 := by
  unfold part8
  rw [List.take_of_length_le (by rw [bek_length]; exact Nat.le_refl _)]
  simp
theorem part8_set (x i : Nat) (h : i < 8) : (part8 x i).set i (UInt8.ofNat (x / 256 ^ (7 - i))) = part8 x (i + 1) := by
  unfold part8
  have hl : ((bek x 8).take i).length = i := by rw [List.length_take, bek_length]; omega
  obtain ⟨m, hm⟩ : ∃ m, 8 - i = m + 1 := ⟨7 - i, by omega⟩
  rw [List.set_append_right _ _ (by omega), hl, Nat.sub_self, hm, List.replicate_succ, List.set_cons_zero]
  rw [bek_succ (bek_at x 8 i (7 - i) (by omega)) (by rw [bek_length]; omega), List.append_assoc, show 8 - (i + 1) = m by omega]
  rfl
end D
theorem make_8 (w : World) : (Instr.makeSlice 36 (.int .i64 8) (.int .i64 8)).run Try.prog w = .ok (.slice (some ⟨w.heap.size, 0, none⟩) 8 8) (w.alloc (.cells (labA (List.replicate 8 0)) 5)) := make_bytes _ Try.underlying36 8 8 rfl (by decide) w
set_option maxRecDepth 100000 in
set_option maxHeartbeats 1000000 in
theorem eight_any (n : Int) (w : World) :
    Calls Try.prog 81 #[.int .i64 n] w fun e w' => e = .returned (.string ⟨(D.eight n).toArray⟩) ∧ Below w.heap.size w w' := by
  have hx : IntKind.u64.wrap n = ((D.u64 n : Nat) : Int) := by rw [IntKind.wrap_u64]; unfold D.u64; omega
  have hxl := D.u64_lt n
  have HE : D.eight n = D.bek (D.u64 n) 8 := rfl
  generalize D.eight n = E at *
  generalize D.u64 n = X at *
  have HX := Lib.hid hx
  go_enter Try.func81, Try.ntmps81
  go_wp2
  go_loopw [3, 4, 5] (fun s x i wr => ∃ (k m : Nat) (A : ByteArray), i = .int .i64 (k : Int) ∧ x = .int .u64 (m : Int) ∧ s = .string A ∧ k ≤ 8 ∧ Hid (m = X / 256 ^ k) ∧ m < 18446744073709551616 ∧ Hid (A = ⟨(D.bek X k).toArray⟩) ∧ Below w.heap.size w wr) (fun _ _ i _ => 8 - (intOf i).toNat)
  case atStart => exact ⟨0, X, _, rfl, by rw [← HX.out], rfl, by omega, Lib.hid (by simp), hxl, Lib.hid rfl, Below.refl _ _⟩
  case round =>
    clear hx hxl HX
    obtain ⟨k, m, A, rfl, rfl, rfl, hk, hm, hml, hA, hB⟩ := hrel
    have k0 : (0 : Int) ≤ (k : Int) := by omega
    have k8 : (k : Int) ≤ 8 := by omega
    have m0 : (0 : Int) ≤ (m : Int) := by omega
    have m1 : (m : Int) < 18446744073709551616 := by omega
    by_cases hlt : k < 8
    · have d1 : decide ((k : Int) < 8) = true := by simp; omega
      have d1' : decide (k < 8) = true := by simp; omega
      have hv := str1 wr (UInt8.ofNat m) ((m : Int) % 256) (by rw [UInt8.toNat_ofNat']; omega)
      have sa := str_add [UInt8.ofNat m] (D.bek X k) (by rw [D.bek_length]; simp; omega)
      have e : [UInt8.ofNat m] ++ D.bek X k = D.bek X (k + 1) := by rw [hm.out]; rfl
      rw [e, ← hA.out] at sa
      have HM := Lib.hid (show m / 256 = X / 256 ^ (k + 1) by rw [hm.out, Nat.pow_succ, Nat.div_div_eq_div_mul])
      have HL := Lib.hid (show m / 256 < 18446744073709551616 by omega)
      generalize (⟨[UInt8.ofNat m].toArray⟩ : ByteArray) = O at *
      generalize hR : (⟨(D.bek X (k + 1)).toArray⟩ : ByteArray) = R at *
      have HR := Lib.hid hR.symm
      clear e hR
      go_wp2
      go_roundw
      case rel => exact ⟨k + 1, m / 256, R, by go_num, by go_num, rfl, by omega, HM, HL.out, HR, hB.alloc hB.size _⟩
      case measure => simp [intOf]; omega
    · obtain rfl : k = 8 := by omega
      rw [← HE] at hA
      have hA2 := hA.out
      clear hA HE
      subst hA2
      go_wp2
      go_ret
      exact ⟨rfl, hB⟩
set_option maxRecDepth 100000 in
set_option maxHeartbeats 1000000 in
theorem num8_any (n : Int) (w : World) :
    Calls Try.prog 114 #[.int .i64 n] w fun e w' => e = .returned (.string ⟨(D.eight n).toArray⟩) ∧ Below w.heap.size w w' := by
  have hx : IntKind.u64.wrap n = ((D.u64 n : Nat) : Int) := by rw [IntKind.wrap_u64]; unfold D.u64; omega
  have hxl := D.u64_lt n
  have HE : D.eight n = D.bek (D.u64 n) 8 := rfl
  generalize D.eight n = E at *
  generalize D.u64 n = X at *
  have b0 : Blk (w.alloc (.cells (labA (List.replicate 8 0)) 5)) w.heap.size (labA (D.part8 X 0)) 5 := by rw [D.part8_zero]; exact Blk.new _ _ _
  go_enter Try.func114, Try.ntmps114
  have hmk := make_8
  go_wp2
  clear hmk
  have hB0 := below_alloc1 w (.cells (labA (List.replicate 8 0)) 5)
  go_loopw [8] (fun i wr => ∃ k : Nat, i = .int .i64 (k : Int) ∧ k ≤ 8 ∧ Blk wr w.heap.size (labA (D.part8 X k)) 5 ∧ Below w.heap.size w wr) (fun i _ => 8 - (intOf i).toNat)
  case atStart => exact ⟨0, rfl, by omega, b0, hB0⟩
  case round =>
    clear b0 hB0
    obtain ⟨k, rfl, hk, b, hB⟩ := hrel
    have k0 : (0 : Int) ≤ (k : Int) := by omega
    have k8 : (k : Int) ≤ 8 := by omega
    by_cases hlt : k < 8
    · have d1 : decide ((k : Int) < 8) = true := by simp; omega
      have d1' : decide (k < 8) = true := by simp; omega
      have kl : (k : Int) < 8 := by omega
      have hl := D.part8_length X k (by omega)
      have c0 := b.cellv (labA_get (D.part8 X k) k (by omega))
      have f0 := b.free k
      have hd : (X : Int) / 2 ^ (56 - 8 * (k : Int)).toNat = ((X / 256 ^ (7 - k) : Nat) : Int) := by
        rw [show (56 - 8 * (k : Int)).toNat = 8 * (7 - k) from by omega, Nat.pow_mul 2 8 (7 - k) |> fun h => show ((2 : Int) ^ (8 * (7 - k))) = (((2 ^ 8) ^ (7 - k) : Nat) : Int) from by rw [← h]; simp, Int.natCast_ediv]
      have b2 := b.set_ k (byteV (UInt8.ofNat (X / 256 ^ (7 - k))))
      rw [labA_set, D.part8_set X k hlt] at b2
      have hq : byteV (UInt8.ofNat (X / 256 ^ (7 - k))) = .int .u8 (((X / 256 ^ (7 - k) : Nat) : Int) % 256) := by
        unfold byteV
        rw [UInt8.toNat_ofNat']
        congr 1
      rw [hq] at b2
      have hqn := Int.natCast_nonneg (X / 256 ^ (7 - k))
      have hqb : ((X / 256 ^ (7 - k) : Nat) : Int) < 18446744073709551616 := by
        have := Nat.div_le_self X (256 ^ (7 - k))
        omega
      clear hq hl
      generalize X / 256 ^ (7 - k) = q at *
      have s0 : (0 : Int) ≤ 56 - 8 * (k : Int) := by omega
      have s1 : 56 - 8 * (k : Int) ≤ 56 := by omega
      go_wp2
      go_roundw
      case rel => exact ⟨k + 1, by go_num, by omega, b2, hB.setCell (by simp) _⟩
      case measure => simp [intOf]; omega
    · obtain rfl : k = 8 := by omega
      have hc := conv_blk b 36 Try.underlying36 8 8 (by rw [D.part8_length X 8 (by omega)]; omega)
      rw [List.take_of_length_le (by rw [D.part8_length X 8 (by omega)]; omega), D.part8_all, ← HE] at hc
      clear HE
      go_wp2
      go_ret
      exact ⟨rfl, hB⟩
end Go.Proofs.Ytgjmnhbkdccgpaa

/- The walk of the reference's Hex. -/
import Derived.Test.YtokjmdlklhkjlaaWHex2
namespace Go.Proofs.Ytokjmdlklhkjlaa
open Go.RowKit

theorem dig_slice (k : Nat) (hk : k < 16) (w : World) : (Instr.slice 9 (.string ⟨#[48, 49, 50, 51, 52, 53, 54, 55, 56, 57, 97, 98, 99, 100, 101, 102]⟩) (some (.int .u8 (k : Int))) (some (.int .u8 ((k : Int) + 1))) none).run Try.prog w = .ok (.string ⟨#[B.hexd k]⟩) w := by
  have key : ∀ k : Fin 16, (⟨#[48, 49, 50, 51, 52, 53, 54, 55, 56, 57, 97, 98, 99, 100, 101, 102]⟩ : ByteArray).extract k.val (k.val + 1) = ⟨#[B.hexd k.val]⟩ := by decide +kernel
  rw [run_slice_string w 9 _ .u8 .u8 (k : Int) ((k : Int) + 1) Try.underlying9 (by omega) (by omega) (by show ((k : Int) + 1) ≤ 16; omega)]
  rw [show ((k : Int)).toNat = k from by omega, show ((k : Int) + 1).toNat = k + 1 from by omega, key ⟨k, hk⟩]
set_option maxHeartbeats 1000000 in
/-- The reference's Hex. -/
theorem rhex_any (l : List UInt8) (hl : l.length = 32) (w : World) : Calls Try.prog 37 #[.agg (labA l)] w fun e w' => e = .returned (.string ⟨(B.hex l).toArray⟩) ∧ Below w.heap.size w w' := by
  go_enter Try.func37, Try.ntmps37
  go_wp2
  go_loopw [3, 5] (fun o v wr => ∃ k : Nat, k ≤ 32 ∧ v = .int .i64 (k : Int) ∧ o = .string ⟨(B.hex (l.take k)).toArray⟩ ∧ Below w.heap.size w wr ∧ Blk wr w.heap.size (labA l) 23) (fun _ v _ => 32 - (intOf v).toNat)
  case atStart => exact ⟨0, by omega, by simp, by simp [B.hex], (Below.refl _ _).alloc (Nat.le_refl _) _, Blk.new _ _ _⟩
  case round =>
    obtain ⟨k, hk, rfl, rfl, hb, b1⟩ := hrel
    by_cases hlt : k < 32
    · have k1 := b1.cellv (labA_get l k (by omega))
      have hx := (l.getD k 0).toNat_lt
      have a1 : (0 : Int) ≤ (k : Int) := by omega
      have a2 : (k : Int) < 32 := by omega
      have q1 : ((l.getD k 0).toNat : Int) / 16 = (((l.getD k 0).toNat / 16 : Nat) : Int) := by omega
      have q2 : ((((l.getD k 0).toNat / 16 : Nat) : Int) + 1) % 256 = (((l.getD k 0).toNat / 16 : Nat) : Int) + 1 := by omega
      have q3 : ((l.getD k 0).toNat : Int).tmod 16 = (((l.getD k 0).toNat % 16 : Nat) : Int) := by rw [Int.tmod_eq_emod_of_nonneg (by omega)]; omega
      have q4 : ((((l.getD k 0).toNat % 16 : Nat) : Int) + 1) % 256 = (((l.getD k 0).toNat % 16 : Nat) : Int) + 1 := by omega
      have q5 : ((l.getD k 0).toNat : Int) % 16 = (((l.getD k 0).toNat % 16 : Nat) : Int) := by omega
      have q6 : (((l.getD k 0).toNat / 16 : Nat) : Int) < 16 := by omega
      have q7 : (((l.getD k 0).toNat % 16 : Nat) : Int) < 16 := by omega
      have hcat : (⟨#[B.hexd ((l.getD k 0).toNat / 16)]⟩ : ByteArray) ++ ⟨#[B.hexd ((l.getD k 0).toNat % 16)]⟩ = ⟨#[B.hexd ((l.getD k 0).toNat / 16), B.hexd ((l.getD k 0).toNat % 16)]⟩ := rfl
      have hsz : (⟨(B.hex (l.take k)).toArray⟩ : ByteArray).size ≤ 64 := by
        rw [show (⟨(B.hex (l.take k)).toArray⟩ : ByteArray).size = (B.hex (l.take k)).length from by simp [ByteArray.size], B.hex_length, List.length_take]; omega
      have hadd : ∀ w, (Op.stringOp .add ⟨(B.hex (l.take k)).toArray⟩ ⟨#[B.hexd ((l.getD k 0).toNat / 16), B.hexd ((l.getD k 0).toNat % 16)]⟩).run Try.prog w = .ok (.string ⟨(B.hex (l.take (k + 1))).toArray⟩) w := by
        intro w
        rw [run_string_add_sum w _ _ (by rw [show (⟨#[B.hexd ((l.getD k 0).toNat / 16), B.hexd ((l.getD k 0).toNat % 16)]⟩ : ByteArray).size = 2 from rfl]; omega)]
        rw [List.take_succ_eq_append_getElem (by omega), B.hex_snoc]
        rw [List.getD_eq_getElem?_getD, List.getElem?_eq_getElem (by omega), Option.getD_some]
        rw [show (#[B.hexd (l[k].toNat / 16), B.hexd (l[k].toNat % 16)] : Array UInt8) = [B.hexd (l[k].toNat / 16), B.hexd (l[k].toNat % 16)].toArray from rfl, ByteArray.mk_append_mk]
      clear hsz
      generalize (⟨(B.hex (l.take k)).toArray⟩ : ByteArray) = S at hadd ⊢
      generalize hS1 : (⟨(B.hex (l.take (k + 1))).toArray⟩ : ByteArray) = S1 at hadd
      have s1 := dig_slice ((l.getD k 0).toNat / 16) (by omega)
      have s2 := dig_slice ((l.getD k 0).toNat % 16) (by omega)
      have hcell : ∀ (d : Nat) (os : Array Obj), (Go.Sort.grow (redrawn wr d) os).cell? ⟨w.heap.size, k, none⟩ = some (.int .u8 ((l.getD k 0).toNat : Int)) := cell_regrown k1
      clear k1
      generalize (l.getD k 0).toNat / 16 = y1 at q1 q2 q6 s1 hcat hadd
      generalize (l.getD k 0).toNat % 16 = y2 at q3 q4 q5 q7 s2 hcat hadd
      generalize (l.getD k 0).toNat = x at hcell hx q1 q3 q5
      go_wp2
      refine wp_region_quiet_below (by kernel_rfl) (by kernel_rfl) ?_
      repeat (first | fail | go_big_quiet_step (first | fail | fail))
      refine wpQuiet_nil ?_
      intro w1 hw1
      have hb1 := below_of_regrown hw1
      clear hw1
      go_wp2
      go_roundw
      case rel => exact ⟨k + 1, by omega, by go_num, by rw [← hS1], hb.trans (hb1.mono hb.size), b1.at_ hb1⟩
      case measure => simp [intOf]; omega
    · have hk32 : k = 32 := by omega
      subst hk32
      rw [List.take_of_length_le (by omega)]
      go_wp2
      go_ret
      exact ⟨rfl, hb⟩
end Go.Proofs.Ytokjmdlklhkjlaa
